/- The law FnExactReadRecText walked: it returns true, and nothing that was there has turned. Printed by mkrdtxlaw.py. -/
import Derived.Test.YtpiheobpobclgaaGreatDoorRdTxM
import Derived.Test.YtpiheobpobclgaaGreatDoorRecH
import Derived.Test.YtpiheobpobclgaaGreatDoorBlkT
namespace Go.Proofs.YtpiheobpobclgaaGreatDoor.fnExactReadRecText
open Go.RowKit

theorem res_cost (s : ByteArray) : costRec (recRT s).1 ≤ 400 := by
  have hz : costRec (zeroR 0) ≤ 400 := by unfold costRec zeroR costStringS costWriteS sumC; simp
  unfold recRT
  split
  · exact hz
  · unfold recR
    split
    · rename_i h
      exact goodRB_cost (Classical.choose_spec h).1
    · exact hz

/-- What a call of ReadRecText does, the result named. -/
theorem tx_two {s : ByteArray} {x : RecD} {q : Bool} (h : recRT s = (x, q)) {P : Program} {f : Nat} {A : Array Value} {w : World} (hc : Calls P f A w (TxPost s w)) :
    Calls P f A w fun e w' => ∃ pr cr pw cw, e = .returned (.tuple #[.agg #[.int .i64 x.Kind, .int .i64 x.Txn, .int .i64 x.Time, .int .i64 x.Lead, .slice pr x.Reads.length cr, .slice pw x.Writes.length cw, .bool x.Yes], .bool q]) ∧
      Own2 Cod.str Cod.write w' w.heap.size w'.heap.size (.slice pr x.Reads.length cr) (.slice pw x.Writes.length cw) x.Reads x.Writes ∧ Below w.heap.size w w' := by
  refine hc.mono ?_
  rintro e w' ⟨x', q', pr, cr, pw, cw, h', rfl, ho, hb⟩
  rw [h] at h'
  injection h' with h1 h2
  subst h1 h2
  exact ⟨pr, cr, pw, cw, rfl, ho, hb⟩

set_option maxRecDepth 100000 in
set_option maxHeartbeats 6400000 in
theorem walk {w : World} (y0 : ByteArray) (by0 : y0.size ≤ maxLen) (hTab : TabW w) (hErr : ErrW w) (hMax : MaxZ w) : Calls Tryz.prog 3 #[.string y0] w fun e w' => e = .returned (.bool true) ∧ Below w.heap.size w w' := by
  by_cases hs0 : y0.size ≤ 1048576
  rotate_left
  · have hs1 : (1048576 : Int) < (y0.size : Int) := by omega
    have hs2 : (y0.size : Int) ≤ 9223372036854775807 := by unfold maxLen at by0; omega
    clear hTab hErr hMax
    go_enter Tryz.func3, Tryz.ntmps3
    go_wp2
    go_ret
    exact ⟨rfl, by (repeat (first | (with_reducible exact Below.refl _ _) | (with_reducible refine below_setCell ?_ (by first | (simp; done) | (simp; omega) | omega)) | (with_reducible refine below_alloc _ ?_) | (with_reducible refine below_drewN ?_ _) | (with_reducible assumption) | (with_reducible refine below_after (by assumption) ?_)))⟩
  have hs1 : (y0.size : Int) ≤ 1048576 := by omega
  have hc := res_cost y0
  obtain ⟨⟨x, q⟩, hxq⟩ : ∃ R, recRT y0 = R := ⟨_, rfl⟩
  rw [hxq] at hc
  have hc2 : costRec x ≤ 1048576 := Nat.le_trans hc (by decide)
  have HS := Lib.hid (fun W => tx_two hxq (readRecTextS_any y0 hs0 W))
  have HI := Lib.hid (fun (W : World) (kb : Below w.heap.size w W) => tx_two hxq (readRecText_any y0 hs0 W (hTab.on kb) (hErr.on kb) (hMax.on kb)))
  have He := Lib.hid (fun (W : World) (p p' q1 q' : Value) r1 r1' r2 r2' => eqRec_o x hc2 W p r1 p' r1' q1 r2 q' r2')
  have hLx := lenRecM x
  have Hk := Lib.hid (fun (W : World) (a b : Value) (lo hi : Nat) (hh : hi ≤ W.heap.size) h => markRec_h 1 (by decide) x a b lo hi W hh h (by have : costRec x ≤ 400 := hc; omega))
  have Hh := Lib.hid (fun (W : World) (a b : Value) h1 h2 => heldRec_h 1 (by decide) x.Kind x.Txn x.Time x.Lead x.Yes a b (sumN LString x.Reads) (sumN LWrite x.Writes) W h1 h2 (by unfold LRecM at hLx; have : costRec x ≤ 400 := hc; omega))
  clear hxq hTab hErr hMax
  obtain ⟨xK, xT, xTi, xL, xR, xW, xY⟩ := x
  unfold LRecM at Hk
  dsimp only at *
  obtain ⟨M, hM⟩ : ∃ M, 1 + (sumN LString xR + sumN LWrite xW) = M := ⟨_, rfl⟩
  rw [hM] at Hk
  rw [show 1 + sumN LString xR + sumN LWrite xW = M from by omega] at Hh
  have hMn : (0 : Int) ≤ (M : Int) := by omega
  clear hM hLx hc hc2
  generalize sumN LString xR = S1 at *
  generalize sumN LWrite xW = S2 at *
  generalize hnR : xR.length = nR at *
  generalize hnW : xW.length = nW at *
  clear hnR hnW
  go_enter Tryz.func3, Tryz.ntmps3
  go_wp2_with fail
  refine (HS.out _).mono ?_
  rintro e u1 ⟨pw, cw, dw, ew, rfl, ow, k1⟩
  have z1 : w.heap.size ≤ u1.heap.size := by have := k1.size; omega
  have b : Below w.heap.size w u1 := k1
  clear k1
  go_upto_region 4 with fail
  generalize hw2 : World.alloc _ _ = u2
  have BW : Blk u2 u1.heap.size 25 #[.int .i64 xK, .int .i64 xT, .int .i64 xTi, .int .i64 xL, .slice pw nR cw, .slice dw nW ew, .bool xY] := by rw [← hw2]; exact Blk.new _ _ _
  have k2 : Below u1.heap.size u1 u2 := by rw [← hw2]; exact below_new _ _
  clear hw2
  replace ow := ow.below k2
  have z2 : u1.heap.size < u2.heap.size := BW.lt
  replace b : Below w.heap.size w u2 := below_after k2 b
  clear k2
  go_wp2_with fail
  refine (HI.out _ b).mono ?_
  rintro e u3 ⟨pg, cg, dg, eg, rfl, og, k3⟩
  replace ow := ow.below k3
  replace BW := BW.below k3
  have z3 : u2.heap.size ≤ u3.heap.size := by have := k3.size; omega
  replace b : Below w.heap.size w u3 := below_after k3 b
  clear k3
  go_upto_region 5 with fail
  generalize hw4 : World.alloc _ _ = u4
  have BG : Blk u4 u3.heap.size 25 #[.int .i64 xK, .int .i64 xT, .int .i64 xTi, .int .i64 xL, .slice pg nR cg, .slice dg nW eg, .bool xY] := by rw [← hw4]; exact Blk.new _ _ _
  have k4 : Below u3.heap.size u3 u4 := by rw [← hw4]; exact below_new _ _
  clear hw4
  replace ow := ow.below k4
  replace BW := BW.below k4
  replace og := og.below k4
  have z4 : u3.heap.size < u4.heap.size := BG.lt
  replace b : Below w.heap.size w u4 := below_after k4 b
  clear k4
  have BG_0 := BG.cell 0 (v := .int .i64 xK) rfl
  have BG_1 := BG.cell 1 (v := .int .i64 xT) rfl
  have BG_2 := BG.cell 2 (v := .int .i64 xTi) rfl
  have BG_3 := BG.cell 3 (v := .int .i64 xL) rfl
  have BG_4 := BG.cell 4 (v := .slice pg nR cg) rfl
  have BG_5 := BG.cell 5 (v := .slice dg nW eg) rfl
  have BG_6 := BG.cell 6 (v := .bool xY) rfl
  have BW_0 := BW.cell 0 (v := .int .i64 xK) rfl
  have BW_1 := BW.cell 1 (v := .int .i64 xT) rfl
  have BW_2 := BW.cell 2 (v := .int .i64 xTi) rfl
  have BW_3 := BW.cell 3 (v := .int .i64 xL) rfl
  have BW_4 := BW.cell 4 (v := .slice pw nR cw) rfl
  have BW_5 := BW.cell 5 (v := .slice dw nW ew) rfl
  have BW_6 := BW.cell 6 (v := .bool xY) rfl
  go_wp2_with fail
  refine (He.out _ _ _ _ _ og.rd1 og.rd2 ow.rd1 ow.rd2).mono ?_
  rintro e u5 ⟨rfl, k5⟩
  clear BG_0 BG_1 BG_2 BG_3 BG_4 BG_5 BG_6 BW_0 BW_1 BW_2 BW_3 BW_4 BW_5 BW_6
  replace ow := ow.below k5
  replace BW := BW.below k5
  replace og := og.below k5
  replace BG := BG.below k5
  have z5 : u4.heap.size ≤ u5.heap.size := by have := k5.size; omega
  replace b : Below w.heap.size w u5 := below_after k5 b
  clear k5
  have BG_0 := BG.cell 0 (v := .int .i64 xK) rfl
  have BG_1 := BG.cell 1 (v := .int .i64 xT) rfl
  have BG_2 := BG.cell 2 (v := .int .i64 xTi) rfl
  have BG_3 := BG.cell 3 (v := .int .i64 xL) rfl
  have BG_4 := BG.cell 4 (v := .slice pg nR cg) rfl
  have BG_5 := BG.cell 5 (v := .slice dg nW eg) rfl
  have BG_6 := BG.cell 6 (v := .bool xY) rfl
  go_wp2_with fail
  refine (Hk.out _ _ _ _ _ (by omega) og).mono ?_
  rintro e u6 ⟨rfl, h1, h2, t6⟩
  clear BG_0 BG_1 BG_2 BG_3 BG_4 BG_5 BG_6
  replace ow := ow.turn t6 (by omega)
  replace BW := BW.turn t6 (by omega)
  replace BG := BG.turn t6 (by omega)
  have z6 : u5.heap.size ≤ u6.heap.size := t6.size
  replace b : Below w.heap.size w u6 := Turn.below t6 (by omega) b
  clear t6 og
  have BG_0 := BG.cell 0 (v := .int .i64 xK) rfl
  have BG_1 := BG.cell 1 (v := .int .i64 xT) rfl
  have BG_2 := BG.cell 2 (v := .int .i64 xTi) rfl
  have BG_3 := BG.cell 3 (v := .int .i64 xL) rfl
  have BG_4 := BG.cell 4 (v := .slice pg nR cg) rfl
  have BG_5 := BG.cell 5 (v := .slice dg nW eg) rfl
  have BG_6 := BG.cell 6 (v := .bool xY) rfl
  go_wp2_with fail
  refine (Hh.out _ _ _ h1 h2).mono ?_
  rintro e u7 ⟨rfl, k7⟩
  clear BG_0 BG_1 BG_2 BG_3 BG_4 BG_5 BG_6
  replace ow := ow.below k7
  replace BW := BW.below k7
  replace BG := BG.below k7
  replace h1 := h1.below k7
  replace h2 := h2.below k7
  have z7 : u6.heap.size ≤ u7.heap.size := by have := k7.size; omega
  replace b : Below w.heap.size w u7 := below_after k7 b
  clear k7
  go_wp2_with fail
  refine (HI.out _ b).mono ?_
  rintro e u8 ⟨ph, ch, dh, eh, rfl, oh, k8⟩
  replace ow := ow.below k8
  replace BW := BW.below k8
  replace BG := BG.below k8
  replace h1 := h1.below k8
  replace h2 := h2.below k8
  have z8 : u7.heap.size ≤ u8.heap.size := by have := k8.size; omega
  replace b : Below w.heap.size w u8 := below_after k8 b
  clear k8
  go_upto_region 16 with fail
  generalize hw9 : World.alloc _ _ = u9
  have BH : Blk u9 u8.heap.size 25 #[.int .i64 xK, .int .i64 xT, .int .i64 xTi, .int .i64 xL, .slice ph nR ch, .slice dh nW eh, .bool xY] := by rw [← hw9]; exact Blk.new _ _ _
  have k9 : Below u8.heap.size u8 u9 := by rw [← hw9]; exact below_new _ _
  clear hw9
  replace ow := ow.below k9
  replace BW := BW.below k9
  replace BG := BG.below k9
  replace h1 := h1.below k9
  replace h2 := h2.below k9
  replace oh := oh.below k9
  have z9 : u8.heap.size < u9.heap.size := BH.lt
  replace b : Below w.heap.size w u9 := below_after k9 b
  clear k9
  have BH_0 := BH.cell 0 (v := .int .i64 xK) rfl
  have BH_1 := BH.cell 1 (v := .int .i64 xT) rfl
  have BH_2 := BH.cell 2 (v := .int .i64 xTi) rfl
  have BH_3 := BH.cell 3 (v := .int .i64 xL) rfl
  have BH_4 := BH.cell 4 (v := .slice ph nR ch) rfl
  have BH_5 := BH.cell 5 (v := .slice dh nW eh) rfl
  have BH_6 := BH.cell 6 (v := .bool xY) rfl
  have BW_0 := BW.cell 0 (v := .int .i64 xK) rfl
  have BW_1 := BW.cell 1 (v := .int .i64 xT) rfl
  have BW_2 := BW.cell 2 (v := .int .i64 xTi) rfl
  have BW_3 := BW.cell 3 (v := .int .i64 xL) rfl
  have BW_4 := BW.cell 4 (v := .slice pw nR cw) rfl
  have BW_5 := BW.cell 5 (v := .slice dw nW ew) rfl
  have BW_6 := BW.cell 6 (v := .bool xY) rfl
  go_wp2_with fail
  refine (He.out _ _ _ _ _ oh.rd1 oh.rd2 ow.rd1 ow.rd2).mono ?_
  rintro e u10 ⟨rfl, k10⟩
  clear BH_0 BH_1 BH_2 BH_3 BH_4 BH_5 BH_6 BW_0 BW_1 BW_2 BW_3 BW_4 BW_5 BW_6
  replace ow := ow.below k10
  replace BW := BW.below k10
  replace BG := BG.below k10
  replace h1 := h1.below k10
  replace h2 := h2.below k10
  replace oh := oh.below k10
  replace BH := BH.below k10
  have z10 : u9.heap.size ≤ u10.heap.size := by have := k10.size; omega
  replace b : Below w.heap.size w u10 := below_after k10 b
  clear k10
  have BG_0 := BG.cell 0 (v := .int .i64 xK) rfl
  have BG_1 := BG.cell 1 (v := .int .i64 xT) rfl
  have BG_2 := BG.cell 2 (v := .int .i64 xTi) rfl
  have BG_3 := BG.cell 3 (v := .int .i64 xL) rfl
  have BG_4 := BG.cell 4 (v := .slice pg nR cg) rfl
  have BG_5 := BG.cell 5 (v := .slice dg nW eg) rfl
  have BG_6 := BG.cell 6 (v := .bool xY) rfl
  go_wp2_with fail
  refine (Hh.out _ _ _ h1 h2).mono ?_
  rintro e u11 ⟨rfl, k11⟩
  clear BG_0 BG_1 BG_2 BG_3 BG_4 BG_5 BG_6
  replace ow := ow.below k11
  replace BW := BW.below k11
  replace BG := BG.below k11
  replace h1 := h1.below k11
  replace h2 := h2.below k11
  replace oh := oh.below k11
  replace BH := BH.below k11
  have z11 : u10.heap.size ≤ u11.heap.size := by have := k11.size; omega
  replace b : Below w.heap.size w u11 := below_after k11 b
  clear k11
  go_wp2
  go_ret
  exact ⟨rfl, b⟩

end Go.Proofs.YtpiheobpobclgaaGreatDoor.fnExactReadRecText
