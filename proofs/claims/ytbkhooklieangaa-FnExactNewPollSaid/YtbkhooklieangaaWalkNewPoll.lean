/- The law FnExactNewPoll walked: it returns true, and nothing that was there has turned. Printed by mkblaw.py. -/
import Derived.Test.YtbkhooklieangaaPollM
namespace Go.Proofs.Ytbkhooklieangaa.fnExactNewPoll
open Go.RowKit

set_option maxRecDepth 100000 in
set_option maxHeartbeats 6400000 in
theorem walk {w : World} (v0 : Value) (y0 : List Int) (s0 : Rd Cod.int w v0 y0) (y1 : Int) (_ : True) : Calls Try.prog 3 #[v0, .int .i64 y1] w fun e w' => e = .returned (.bool true) ∧ Below w.heap.size w w' := by
  obtain ⟨p0, c0, rfl, hlc0, hcm0, -⟩ := s0.form
  by_cases hs0 : y0.length ≤ 1048576
  rotate_left
  · have hs1 : (1048576 : Int) < (y0.length : Int) := by omega
    clear s0
    generalize y0.length = n0 at *
    go_enter Try.func3, Try.ntmps3
    go_wp2
    go_ret
    exact ⟨rfl, by (repeat (first | (with_reducible exact Below.refl _ _) | (with_reducible refine below_setCell ?_ (by first | (simp; done) | (simp; omega) | omega)) | (with_reducible refine below_alloc _ ?_) | (with_reducible refine below_drewN ?_ _) | (with_reducible assumption) | (with_reducible refine below_after (by assumption) ?_)))⟩
  have hs1 : (y0.length : Int) ≤ 1048576 := by omega
  have Ht := Lib.hid (fun (u : World) r => toIntS_any (.slice p0 y0.length c0) y0 hs0 u r)
  have He := Lib.hid (fun (a b : Value) (u : World) r1 r2 => eqIntS_any a b y0 u r1 r2 hs0)
  have hL0 := lenInt y0
  have Hk := Lib.hid (fun (a : Value) (lo hi : Nat) (u : World) r => markIntS_l 1 (by decide) a y0 lo hi u r (by omega))
  have HS := Lib.hid (fun (u : World) (x : Value) r => newPollS_any x y0 y1 hs0 u r)
  have HI := Lib.hid (fun (u : World) (x : Value) r => newPoll_any x y0 y1 hs0 u r)
  unfold PollRes at HS HI
  generalize pollB y0 y1 = q at *
  have hrl : (pickL q y0).length ≤ 1048576 := by cases q; exact Nat.zero_le _; exact hs0
  have hrv : costVoterS (pickL q (List.replicate y0.length voter0)) ≤ 1048576 := by cases q; exact Nat.zero_le _; exact (costVoters _).symm ▸ hs0
  have hLv : sumN LVoter (pickL q (List.replicate y0.length voter0)) ≤ 4194304 := by cases q; exact Nat.zero_le _; exact (lenVoters _).symm ▸ (by omega)
  have hLi : sumN LInt (pickL q y0) ≤ 1048576 := Nat.le_trans (lenInt _) hrl
  generalize pickL q (List.replicate y0.length voter0) = vs at *
  generalize pickL q y0 = res at *
  generalize pickI q y1 = fr at *
  have HeR := Lib.hid (fun (a b x y : Value) (pw pw' : Option Addr) (u : World) r1 r2 r3 r4 => eqPoll_any a b x y vs res fr pw pw' hrv hrl u r1 r2 r3 r4)
  have HkR := Lib.hid (fun (a b : Value) (pw : Option Addr) (lo hi : Nat) (u : World) (hh : hi ≤ u.heap.size) r => markPoll_h 1 (by decide) a b vs res fr pw lo hi u hh r (by omega))
  have HhR := Lib.hid (fun (a b : Value) (pw : Option Addr) (u : World) h1 h2 => heldPoll_h 1 (by decide) a b fr pw (sumN LVoter vs) (sumN LInt res) u h1 h2 (by omega))
  obtain ⟨M, hM⟩ : ∃ M, 1 + sumN LVoter vs + sumN LInt res = M := ⟨_, rfl⟩
  rw [hM] at HkR HhR
  have hMn : (0 : Int) ≤ (M : Int) := by omega
  obtain ⟨K0, hK0⟩ : ∃ K0, 1 + sumN LInt y0 = K0 := ⟨_, rfl⟩
  rw [hK0] at Hk
  have hKn : (0 : Int) ≤ (K0 : Int) := by omega
  clear hM hK0 hrl hrv hLv hLi hL0
  generalize sumN LVoter vs = S1 at *
  generalize sumN LInt res = S2 at *
  generalize sumN LInt y0 = S0 at *
  generalize hn0 : y0.length = n0 at *
  clear hn0
  go_enter Try.func3, Try.ntmps3
  replace s0 := s0.within
  go_wp2_with fail
  refine (Ht.out _ s0.rd).mono ?_
  rintro e u1 ⟨vaw, rfl, oaw, k1⟩
  have aw := oaw.within
  clear oaw
  replace s0 := s0.below k1
  have z1 : w.heap.size ≤ u1.heap.size := by have := k1.size; omega
  have b : Below w.heap.size w u1 := k1
  clear k1
  go_wp2_with fail
  refine (HS.out _ _ aw.rd).mono ?_
  rintro e u2 ⟨⟨pw, lw, cw, dw, mw, ew, ww, rfl, ow⟩, k2⟩
  replace s0 := s0.below k2
  replace aw := aw.below k2
  have z2 : u1.heap.size ≤ u2.heap.size := by have := k2.size; omega
  replace b : Below w.heap.size w u2 := below_after k2 b
  clear k2
  go_upto_region 4 with fail
  generalize hw3 : World.alloc _ _ = u3
  have BW : Blk u3 u2.heap.size 29 #[.slice pw lw cw, .int .i64 0, .slice dw mw ew, .int .i64 fr, .slice none 0 0, .slice ww 0 0] := by rw [← hw3]; exact Blk.new _ _ _
  have k3 : Below u2.heap.size u2 u3 := by rw [← hw3]; exact below_new _ _
  clear hw3
  replace s0 := s0.below k3
  replace aw := aw.below k3
  replace ow := ow.below k3
  have z3 : u2.heap.size < u3.heap.size := BW.lt
  replace b : Below w.heap.size w u3 := below_after k3 b
  clear k3
  clear aw
  go_wp2_with fail
  refine (Ht.out _ s0.rd).mono ?_
  rintro e u4 ⟨vax, rfl, oax, k4⟩
  have ax := oax.within
  clear oax
  replace s0 := s0.below k4
  replace ow := ow.below k4
  replace BW := BW.below k4
  have z4 : u3.heap.size ≤ u4.heap.size := by have := k4.size; omega
  replace b : Below w.heap.size w u4 := below_after k4 b
  clear k4
  go_wp2_with fail
  refine (HI.out _ _ ax.rd).mono ?_
  rintro e u5 ⟨⟨pg, lg, cg, dg, mg, eg, wg, rfl, og⟩, k5⟩
  replace s0 := s0.below k5
  replace ow := ow.below k5
  replace BW := BW.below k5
  replace ax := ax.below k5
  have z5 : u4.heap.size ≤ u5.heap.size := by have := k5.size; omega
  replace b : Below w.heap.size w u5 := below_after k5 b
  clear k5
  go_upto_region 6 with fail
  generalize hw6 : World.alloc _ _ = u6
  have BG : Blk u6 u5.heap.size 29 #[.slice pg lg cg, .int .i64 0, .slice dg mg eg, .int .i64 fr, .slice none 0 0, .slice wg 0 0] := by rw [← hw6]; exact Blk.new _ _ _
  have k6 : Below u5.heap.size u5 u6 := by rw [← hw6]; exact below_new _ _
  clear hw6
  replace s0 := s0.below k6
  replace ow := ow.below k6
  replace BW := BW.below k6
  replace ax := ax.below k6
  replace og := og.below k6
  have z6 : u5.heap.size < u6.heap.size := BG.lt
  replace b : Below w.heap.size w u6 := below_after k6 b
  clear k6
  have BG_0 := BG.cell 0 (v := .slice pg lg cg) rfl
  have BG_1 := BG.cell 1 (v := .int .i64 0) rfl
  have BG_2 := BG.cell 2 (v := .slice dg mg eg) rfl
  have BG_3 := BG.cell 3 (v := .int .i64 fr) rfl
  have BG_4 := BG.cell 4 (v := .slice none 0 0) rfl
  have BG_5 := BG.cell 5 (v := .slice wg 0 0) rfl
  have BW_0 := BW.cell 0 (v := .slice pw lw cw) rfl
  have BW_1 := BW.cell 1 (v := .int .i64 0) rfl
  have BW_2 := BW.cell 2 (v := .slice dw mw ew) rfl
  have BW_3 := BW.cell 3 (v := .int .i64 fr) rfl
  have BW_4 := BW.cell 4 (v := .slice none 0 0) rfl
  have BW_5 := BW.cell 5 (v := .slice ww 0 0) rfl
  go_wp2_with fail
  refine (HeR.out _ _ _ _ _ _ _ og.rd1 ow.rd1 og.rd2 ow.rd2).mono ?_
  rintro e u7 ⟨rfl, k7⟩
  clear BG_0 BG_1 BG_2 BG_3 BG_4 BG_5 BW_0 BW_1 BW_2 BW_3 BW_4 BW_5
  replace s0 := s0.below k7
  replace ow := ow.below k7
  replace BW := BW.below k7
  replace ax := ax.below k7
  replace og := og.below k7
  replace BG := BG.below k7
  have z7 : u6.heap.size ≤ u7.heap.size := by have := k7.size; omega
  replace b : Below w.heap.size w u7 := below_after k7 b
  clear k7
  go_wp2_with fail
  refine (Ht.out _ s0.rd).mono ?_
  rintro e u8 ⟨vae, rfl, oae, k8⟩
  have ae := oae.within
  clear oae
  replace s0 := s0.below k8
  replace ow := ow.below k8
  replace BW := BW.below k8
  replace ax := ax.below k8
  replace og := og.below k8
  replace BG := BG.below k8
  have z8 : u7.heap.size ≤ u8.heap.size := by have := k8.size; omega
  replace b : Below w.heap.size w u8 := below_after k8 b
  clear k8
  go_wp2_with fail
  refine (He.out _ _ _ ax.rd ae.rd).mono ?_
  rintro e u9 ⟨rfl, k9⟩
  replace s0 := s0.below k9
  replace ow := ow.below k9
  replace BW := BW.below k9
  replace ax := ax.below k9
  replace og := og.below k9
  replace BG := BG.below k9
  replace ae := ae.below k9
  have z9 : u8.heap.size ≤ u9.heap.size := by have := k9.size; omega
  replace b : Below w.heap.size w u9 := below_after k9 b
  clear k9
  clear ae
  go_wp2_with fail
  refine (Hk.out _ _ _ _ ax).mono ?_
  rintro e u10 ⟨rfl, -, t10⟩
  replace s0 := s0.turn t10 (by omega)
  replace ow := ow.turn t10 (by omega)
  replace BW := BW.turn t10 (by omega)
  replace og := og.turn t10 (by omega)
  replace BG := BG.turn t10 (by omega)
  have z10 : u9.heap.size ≤ u10.heap.size := t10.size
  replace b : Below w.heap.size w u10 := Turn.below t10 (by omega) b
  clear t10 ax
  have BG_0 := BG.cell 0 (v := .slice pg lg cg) rfl
  have BG_1 := BG.cell 1 (v := .int .i64 0) rfl
  have BG_2 := BG.cell 2 (v := .slice dg mg eg) rfl
  have BG_3 := BG.cell 3 (v := .int .i64 fr) rfl
  have BG_4 := BG.cell 4 (v := .slice none 0 0) rfl
  have BG_5 := BG.cell 5 (v := .slice wg 0 0) rfl
  have BW_0 := BW.cell 0 (v := .slice pw lw cw) rfl
  have BW_1 := BW.cell 1 (v := .int .i64 0) rfl
  have BW_2 := BW.cell 2 (v := .slice dw mw ew) rfl
  have BW_3 := BW.cell 3 (v := .int .i64 fr) rfl
  have BW_4 := BW.cell 4 (v := .slice none 0 0) rfl
  have BW_5 := BW.cell 5 (v := .slice ww 0 0) rfl
  go_wp2_with fail
  refine (HeR.out _ _ _ _ _ _ _ og.rd1 ow.rd1 og.rd2 ow.rd2).mono ?_
  rintro e u11 ⟨rfl, k11⟩
  clear BG_0 BG_1 BG_2 BG_3 BG_4 BG_5 BW_0 BW_1 BW_2 BW_3 BW_4 BW_5
  replace s0 := s0.below k11
  replace ow := ow.below k11
  replace BW := BW.below k11
  replace og := og.below k11
  replace BG := BG.below k11
  have z11 : u10.heap.size ≤ u11.heap.size := by have := k11.size; omega
  replace b : Below w.heap.size w u11 := below_after k11 b
  clear k11
  have BG_0 := BG.cell 0 (v := .slice pg lg cg) rfl
  have BG_1 := BG.cell 1 (v := .int .i64 0) rfl
  have BG_2 := BG.cell 2 (v := .slice dg mg eg) rfl
  have BG_3 := BG.cell 3 (v := .int .i64 fr) rfl
  have BG_4 := BG.cell 4 (v := .slice none 0 0) rfl
  have BG_5 := BG.cell 5 (v := .slice wg 0 0) rfl
  go_wp2_with fail
  refine (HkR.out _ _ _ _ _ _ (by omega) og).mono ?_
  rintro e u12 ⟨rfl, h1, h2, t12⟩
  clear BG_0 BG_1 BG_2 BG_3 BG_4 BG_5
  replace s0 := s0.turn t12 (by omega)
  replace ow := ow.turn t12 (by omega)
  replace BW := BW.turn t12 (by omega)
  replace BG := BG.turn t12 (by omega)
  have z12 : u11.heap.size ≤ u12.heap.size := t12.size
  replace b : Below w.heap.size w u12 := Turn.below t12 (by omega) b
  clear t12 og
  have BG_0 := BG.cell 0 (v := .slice pg lg cg) rfl
  have BG_1 := BG.cell 1 (v := .int .i64 0) rfl
  have BG_2 := BG.cell 2 (v := .slice dg mg eg) rfl
  have BG_3 := BG.cell 3 (v := .int .i64 fr) rfl
  have BG_4 := BG.cell 4 (v := .slice none 0 0) rfl
  have BG_5 := BG.cell 5 (v := .slice wg 0 0) rfl
  go_wp2_with fail
  refine (HhR.out _ _ _ _ h1 h2).mono ?_
  rintro e u13 ⟨rfl, k13⟩
  clear BG_0 BG_1 BG_2 BG_3 BG_4 BG_5
  replace s0 := s0.below k13
  replace ow := ow.below k13
  replace BW := BW.below k13
  replace BG := BG.below k13
  replace h1 := h1.below k13
  replace h2 := h2.below k13
  have z13 : u12.heap.size ≤ u13.heap.size := by have := k13.size; omega
  replace b : Below w.heap.size w u13 := below_after k13 b
  clear k13
  go_wp2_with fail
  refine (Ht.out _ s0.rd).mono ?_
  rintro e u14 ⟨vay, rfl, oay, k14⟩
  have ay := oay.within
  clear oay
  replace s0 := s0.below k14
  replace ow := ow.below k14
  replace BW := BW.below k14
  replace BG := BG.below k14
  replace h1 := h1.below k14
  replace h2 := h2.below k14
  have z14 : u13.heap.size ≤ u14.heap.size := by have := k14.size; omega
  replace b : Below w.heap.size w u14 := below_after k14 b
  clear k14
  go_wp2_with fail
  refine (HI.out _ _ ay.rd).mono ?_
  rintro e u15 ⟨⟨ph, lh, ch, dh, mh, eh, wh, rfl, oh⟩, k15⟩
  replace s0 := s0.below k15
  replace ow := ow.below k15
  replace BW := BW.below k15
  replace BG := BG.below k15
  replace h1 := h1.below k15
  replace h2 := h2.below k15
  replace ay := ay.below k15
  have z15 : u14.heap.size ≤ u15.heap.size := by have := k15.size; omega
  replace b : Below w.heap.size w u15 := below_after k15 b
  clear k15
  go_upto_region 23 with fail
  generalize hw16 : World.alloc _ _ = u16
  have BH : Blk u16 u15.heap.size 29 #[.slice ph lh ch, .int .i64 0, .slice dh mh eh, .int .i64 fr, .slice none 0 0, .slice wh 0 0] := by rw [← hw16]; exact Blk.new _ _ _
  have k16 : Below u15.heap.size u15 u16 := by rw [← hw16]; exact below_new _ _
  clear hw16
  replace s0 := s0.below k16
  replace ow := ow.below k16
  replace BW := BW.below k16
  replace BG := BG.below k16
  replace h1 := h1.below k16
  replace h2 := h2.below k16
  replace ay := ay.below k16
  replace oh := oh.below k16
  have z16 : u15.heap.size < u16.heap.size := BH.lt
  replace b : Below w.heap.size w u16 := below_after k16 b
  clear k16
  clear ay
  have BH_0 := BH.cell 0 (v := .slice ph lh ch) rfl
  have BH_1 := BH.cell 1 (v := .int .i64 0) rfl
  have BH_2 := BH.cell 2 (v := .slice dh mh eh) rfl
  have BH_3 := BH.cell 3 (v := .int .i64 fr) rfl
  have BH_4 := BH.cell 4 (v := .slice none 0 0) rfl
  have BH_5 := BH.cell 5 (v := .slice wh 0 0) rfl
  have BW_0 := BW.cell 0 (v := .slice pw lw cw) rfl
  have BW_1 := BW.cell 1 (v := .int .i64 0) rfl
  have BW_2 := BW.cell 2 (v := .slice dw mw ew) rfl
  have BW_3 := BW.cell 3 (v := .int .i64 fr) rfl
  have BW_4 := BW.cell 4 (v := .slice none 0 0) rfl
  have BW_5 := BW.cell 5 (v := .slice ww 0 0) rfl
  go_wp2_with fail
  refine (HeR.out _ _ _ _ _ _ _ oh.rd1 ow.rd1 oh.rd2 ow.rd2).mono ?_
  rintro e u17 ⟨rfl, k17⟩
  clear BH_0 BH_1 BH_2 BH_3 BH_4 BH_5 BW_0 BW_1 BW_2 BW_3 BW_4 BW_5
  replace s0 := s0.below k17
  replace ow := ow.below k17
  replace BW := BW.below k17
  replace BG := BG.below k17
  replace h1 := h1.below k17
  replace h2 := h2.below k17
  replace oh := oh.below k17
  replace BH := BH.below k17
  have z17 : u16.heap.size ≤ u17.heap.size := by have := k17.size; omega
  replace b : Below w.heap.size w u17 := below_after k17 b
  clear k17
  have BG_0 := BG.cell 0 (v := .slice pg lg cg) rfl
  have BG_1 := BG.cell 1 (v := .int .i64 0) rfl
  have BG_2 := BG.cell 2 (v := .slice dg mg eg) rfl
  have BG_3 := BG.cell 3 (v := .int .i64 fr) rfl
  have BG_4 := BG.cell 4 (v := .slice none 0 0) rfl
  have BG_5 := BG.cell 5 (v := .slice wg 0 0) rfl
  go_wp2_with fail
  refine (HhR.out _ _ _ _ h1 h2).mono ?_
  rintro e u18 ⟨rfl, k18⟩
  clear BG_0 BG_1 BG_2 BG_3 BG_4 BG_5
  replace s0 := s0.below k18
  replace ow := ow.below k18
  replace BW := BW.below k18
  replace BG := BG.below k18
  replace h1 := h1.below k18
  replace h2 := h2.below k18
  replace oh := oh.below k18
  replace BH := BH.below k18
  have z18 : u17.heap.size ≤ u18.heap.size := by have := k18.size; omega
  replace b : Below w.heap.size w u18 := below_after k18 b
  clear k18
  go_wp2
  go_ret
  exact ⟨rfl, b⟩

end Go.Proofs.Ytbkhooklieangaa.fnExactNewPoll
