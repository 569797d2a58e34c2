/- impl.ReadRec. Printed by mkrdrec.py. -/
import Derived.Test.YtbkhooklieangaaRdRecL
import Derived.Test.YtbkhooklieangaaBlk
import Derived.Test.YtbkhooklieangaaHeld
import Derived.Test.YtbkhooklieangaaRowd
import Derived.Test.YtbkhooklieangaaRecm
import Derived.Test.YtbkhooklieangaaGoodr
import Derived.Test.YtbkhooklieangaaRecCost
namespace Go.Proofs.Ytbkhooklieangaa
open Go.RowKit

/-- What ReadRec does. -/
def RdRec (s : ByteArray) (w : World) (e : Ending) (w' : World) : Prop :=
  ∃ (x : RecD) (q : Bool) (pr : Option Addr) (cr : Nat) (pw : Option Addr) (cw : Nat), readRecR s = (x, q) ∧ e = .returned (.tuple #[.agg #[.int .i64 x.Kind, .int .i64 x.Txn, .int .i64 x.Time, .int .i64 x.Lead, .slice pr x.Reads.length cr, .slice pw x.Writes.length cw, .bool x.Yes], .bool q]) ∧
    ROwn Cod.recd w' w.heap.size w'.heap.size (recVs x (.slice pr x.Reads.length cr) (.slice pw x.Writes.length cw)) x ∧ Below w.heap.size w w'

theorem OwnIn.frame {α : Type} {c : Cod α} {w w' : World} {lo hi : Nat} {v : Value} {xs : List α} (h : OwnIn c w lo hi v xs) (k : ∀ d, lo ≤ d → d < hi → d < w.heap.size → w'.heap[d]? = w.heap[d]?) : OwnIn c w' lo hi v xs := by
  obtain ⟨fp, h, m, r⟩ := h
  have hf := fun d (hd : d ∈ fp) => k d (m.low d hd) (r d hd) (Cod.rdS_old c h d hd)
  exact ⟨fp, Cod.rdS_frame c hf h, m.frame hf, r⟩
theorem OwnIn.belowB {α : Type} {c : Cod α} {w w' : World} {lo hi N : Nat} {v : Value} {xs : List α} (h : OwnIn c w lo hi v xs) (k : Below N w w') (hN : hi ≤ N) : OwnIn c w' lo hi v xs :=
  h.frame fun d _ h2 _ => k.block d (by omega)
theorem OwnIn.grown {α : Type} {c : Cod α} {w w' : World} {lo hi g : Nat} {v : Value} {xs : List α} (h : OwnIn c w lo hi v xs) (k : w.grownBy w' (some g)) (hg : g < lo) : OwnIn c w' lo hi v xs :=
  h.frame fun d h1 _ h3 => k.block d h3 (fun e => by have := Option.some.inj e; omega)
theorem OwnIn.set {α : Type} {c : Cod α} {w : World} {lo hi b i : Nat} {u v : Value} {xs : List α} (h : OwnIn c w lo hi v xs) (hb : b < lo ∨ hi ≤ b) : OwnIn c (w.setCell ⟨b, i, none⟩ u) lo hi v xs :=
  h.frame fun d h1 h2 _ => Below.heap_setCell w ⟨b, i, none⟩ u d (by show d ≠ b; omega)

theorem OwnIn.keepB {α : Type} {c : Cod α} {w w' : World} {lo hi B : Nat} {v : Value} {xs : List α} (h : OwnIn c w lo hi v xs) (hB : B ≤ lo) (k : Keep B w w') : OwnIn c w' lo hi v xs :=
  h.frame fun d h1 _ h3 => k.block d (Nat.le_trans hB h1) h3
theorem OwnIn.up {α : Type} {c : Cod α} {w : World} {lo hi hi' : Nat} {v : Value} {xs : List α} (h : OwnIn c w lo hi v xs) (k : hi ≤ hi') : OwnIn c w lo hi' v xs := by
  obtain ⟨fp, h, m, r⟩ := h
  exact ⟨fp, h, m, fun d hd => Nat.lt_of_lt_of_le (r d hd) k⟩

theorem rown_rec {w : World} {lo mid : Nat} {x : RecD} {a b : Value} (i0 : I64 x.Kind) (i1 : I64 x.Txn) (i2 : I64 x.Time) (i3 : I64 x.Lead) (h1 : OwnIn Cod.str w lo mid a x.Reads) (h2 : Own Cod.write w mid b x.Writes) (hlm : lo ≤ mid) : ROwn Cod.recd w lo w.heap.size (recVs x a b) x := by
  obtain ⟨f1, s1, m1, l1⟩ := h1
  obtain ⟨f2, s2, m2⟩ := h2
  have h := mk_recd (w := w) (g := lst (recVs x a b)) (x := x) rfl i0 rfl i1 rfl i2 rfl i3 rfl s1 rfl s2 rfl
  rw [List.append_nil] at h
  exact ⟨_, h, m1.app (m2.mono hlm) (fun d h1 h2 => by have := l1 d h1; have := m2.low d h2; omega), Cod.recd.old h⟩
theorem own_nilv {α : Type} (c : Cod α) (w : World) (base : Nat) : Own c w base (.slice none 0 0) [] := ⟨[], ⟨none, 0, rfl, Nat.le_refl _, Nat.zero_le _, fun _ => rfl, Or.inl ⟨rfl, rfl⟩⟩, Mine.nil _ _⟩
theorem rown_zero (w : World) (lo : Nat) (hl : lo ≤ w.heap.size) : ROwn Cod.recd w lo w.heap.size (recVs zeroRec (.slice none 0 0) (.slice none 0 0)) zeroRec :=
  rown_rec (mid := w.heap.size) (by unfold I64 zeroRec; simp) (by unfold I64 zeroRec; simp) (by unfold I64 zeroRec; simp) (by unfold I64 zeroRec; simp) ((own_nilv Cod.str w lo).within) (own_nilv _ _ _) hl
theorem rdrec_zero {s : ByteArray} {w w' : World} (h : readRecR s = (zeroRec, false)) (b : Below w.heap.size w w') : RdRec s w (.returned (.tuple #[.agg #[.int .i64 0, .int .i64 0, .int .i64 0, .int .i64 0, .slice none 0 0, .slice none 0 0, .bool false], .bool false])) w' :=
  ⟨zeroRec, false, none, 0, none, 0, h, rfl, rown_zero _ _ b.size, b⟩

theorem openR_le (s : ByteArray) : (openR s).1.size ≤ s.size := by
  unfold openR
  split
  · show (s.extract 0 (s.size - 3)).size ≤ _; rw [ByteArray.size_extract]; omega
  · exact Nat.zero_le _

theorem Try_infoR_write : (Try.prog.info? 81).map (fun i => (i.zero, i.size, i.bytes)) = some (some (.agg #[.string ⟨#[]⟩, .string ⟨#[]⟩, .bool false]), 3, 40) := by kernel_rfl


set_option maxRecDepth 100000 in
set_option maxHeartbeats 6400000 in
/-- impl.ReadRec -/
theorem readRec_any (s : ByteArray) (hs : s.size ≤ 1048576) (w : World) : Calls Try.prog 30 #[.string s] w (RdRec s w) := by
  obtain ⟨i0, hi, hy0, hy1, hy2⟩ := info_parts Try_infoR_write
  have Ho := Lib.hid (expOpenSeal_any s (by unfold maxLen; omega))
  have hBs : (openR s).1.size ≤ 1048576 := Nat.le_trans (openR_le s) hs
  obtain ⟨Rr, hRr⟩ : ∃ R, readRecR s = R := ⟨_, rfl⟩
  have HRr := Lib.hid hRr
  have HR0 : Hid ((openR s).2 = false → Rr = (zeroRec, false)) := Lib.hid (fun h => hRr ▸ readRecR_closed h)
  have HR1 : Hid ((openR s).2 = true → recO (openR s).1 = none → Rr = (zeroRec, false)) := Lib.hid (fun h k => hRr ▸ readRecR_none h k)
  have HR2 : Hid ((openR s).2 = true → ∀ x n, recO (openR s).1 = some (x, n) → (goodRB x && decide (recBB x = s)) = false → Rr = (zeroRec, false)) := Lib.hid (fun h x n k b => hRr ▸ readRecR_bad h k b)
  have HR3 : Hid ((openR s).2 = true → ∀ x n, recO (openR s).1 = some (x, n) → (goodRB x && decide (recBB x = s)) = true → Rr = (x, true)) := Lib.hid (fun h x n k b => hRr ▸ readRecR_good h k b)
  clear hRr
  generalize (openR s).1 = B at *
  generalize (openR s).2 = q at *
  have hsI : (s.size : Int) ≤ 1048576 := by omega
  cases q
  · replace HR0 := Lib.hid (HR0.out rfl)
    clear HR1 HR2 HR3
    go_enter Try.func30, Try.ntmps30
    go_wp2_with fail
    refine (Ho.out _).mono ?_
    rintro e w1 ⟨rfl, k1⟩
    have Z := (Blk.new w 58 #[.int .i64 0, .int .i64 0, .int .i64 0, .int .i64 0, .slice none 0 0, .slice none 0 0, .bool false]).below k1
    have bw : Below w.heap.size w w1 := below_after k1 (by (repeat (first | (with_reducible exact Below.refl _ _) | (with_reducible refine below_setCell ?_ (by first | (simp; done) | (simp; omega) | omega)) | (with_reducible refine below_alloc _ ?_) | (with_reducible refine below_drewN ?_ _) | (with_reducible assumption) | (with_reducible refine below_after (by assumption) ?_))))
    have z0 := Z.cell 0 (v := .int .i64 0) rfl
    have zf0 := Z.frozen 0
    have z1 := Z.cell 1 (v := .int .i64 0) rfl
    have zf1 := Z.frozen 1
    have z2 := Z.cell 2 (v := .int .i64 0) rfl
    have zf2 := Z.frozen 2
    have z3 := Z.cell 3 (v := .int .i64 0) rfl
    have zf3 := Z.frozen 3
    have z4 := Z.cell 4 (v := .slice none 0 0) rfl
    have zf4 := Z.frozen 4
    have z5 := Z.cell 5 (v := .slice none 0 0) rfl
    have zf5 := Z.frozen 5
    have z6 := Z.cell 6 (v := .bool false) rfl
    have zf6 := Z.frozen 6
    go_wp2
    refine bodyPost_ret (v := .tuple #[.agg #[.int .i64 0, .int .i64 0, .int .i64 0, .int .i64 0, .slice none 0 0, .slice none 0 0, .bool false], .bool false]) (by simp [results, Try.results30, go_sem, z0, zf0, z1, zf1, z2, zf2, z3, zf3, z4, zf4, z5, zf5, z6, zf6]) rfl ?_
    exact rdrec_zero (HRr.out.trans HR0.out) (by (repeat (first | (with_reducible exact Below.refl _ _) | (with_reducible refine below_setCell ?_ (by first | (simp; done) | (simp; omega) | omega)) | (with_reducible refine below_alloc _ ?_) | (with_reducible refine below_drewN ?_ _) | (with_reducible assumption) | (with_reducible refine below_after (by assumption) ?_))))
  · replace HR1 := Lib.hid (HR1.out rfl)
    replace HR2 := Lib.hid (HR2.out rfl)
    replace HR3 := Lib.hid (HR3.out rfl)
    clear HR0
    go_enter Try.func30, Try.ntmps30
    go_wp2_with fail
    refine (Ho.out _).mono ?_
    rintro e w1 ⟨rfl, k1⟩
    have Z := (Blk.new w 58 #[.int .i64 0, .int .i64 0, .int .i64 0, .int .i64 0, .slice none 0 0, .slice none 0 0, .bool false]).below k1
    have bw : Below w.heap.size w w1 := below_after k1 (by (repeat (first | (with_reducible exact Below.refl _ _) | (with_reducible refine below_setCell ?_ (by first | (simp; done) | (simp; omega) | omega)) | (with_reducible refine below_alloc _ ?_) | (with_reducible refine below_drewN ?_ _) | (with_reducible assumption) | (with_reducible refine below_after (by assumption) ?_))))
    clear k1
    go_upto_region 5 with fail
    obtain ⟨g, hg⟩ : ∃ g, w1.heap.size = g := ⟨_, rfl⟩
    generalize hw2 : World.alloc _ _ = w2
    have hsrc : SrcO w2 g B (some 0) := by rw [← hw2, ← hg]; exact srcO_some (src_new w1 B 0 108) (Nat.zero_le _)
    have hzg : w.heap.size ≠ g := by have := Z.lt; omega
    have hgl : w.heap.size ≤ g := by have := bw.size; omega
    have hg1 : g < w2.heap.size := hsrc.lt
    replace Z : Blk w2 w.heap.size 58 #[.int .i64 0, .int .i64 0, .int .i64 0, .int .i64 0, .slice none 0 0, .slice none 0 0, .bool false] := by rw [← hw2]; exact Z.alloc _
    replace bw : Below w.heap.size w w2 := by rw [← hw2]; exact below_alloc _ bw
    rw [hg]
    clear hw2 hg
    go_wp2_with fail
    refine (num_o _ g B (some 0) hsrc hBs).mono ?_
    rintro e w2 ⟨n1, o1, rfl, hn1, g1, hsrc', k1⟩
    replace hsrc := hsrc'
    clear hsrc'
    replace Z := Z.grown k1 hzg
    replace bw := below_grown bw k1 hgl bw.size
    replace hg1 := Nat.lt_of_lt_of_le hg1 k1.size
    clear k1
    go_wp2_with fail
    refine (num_o _ g B o1 hsrc hBs).mono ?_
    rintro e w3 ⟨n2, o2, rfl, hn2, g2, hsrc', k2⟩
    replace hsrc := hsrc'
    clear hsrc'
    replace Z := Z.grown k2 hzg
    replace bw := below_grown bw k2 hgl bw.size
    replace hg1 := Nat.lt_of_lt_of_le hg1 k2.size
    clear k2
    go_wp2_with fail
    refine (num_o _ g B o2 hsrc hBs).mono ?_
    rintro e w4 ⟨n3, o3, rfl, hn3, g3, hsrc', k3⟩
    replace hsrc := hsrc'
    clear hsrc'
    replace Z := Z.grown k3 hzg
    replace bw := below_grown bw k3 hgl bw.size
    replace hg1 := Nat.lt_of_lt_of_le hg1 k3.size
    clear k3
    go_wp2_with fail
    refine (num_o _ g B o3 hsrc hBs).mono ?_
    rintro e w5 ⟨n4, o4, rfl, hn4, g4, hsrc', k4⟩
    replace hsrc := hsrc'
    clear hsrc'
    replace Z := Z.grown k4 hzg
    replace bw := below_grown bw k4 hgl bw.size
    replace hg1 := Nat.lt_of_lt_of_le hg1 k4.size
    clear k4
    go_wp2_with fail
    refine (take_o _ g B o4 hsrc hBs).mono ?_
    rintro e w6 ⟨sy, y, o5, rfl, hy, g5, hsrc', k5⟩
    replace hsrc := hsrc'
    clear hsrc'
    replace Z := Z.grown k5 hzg
    replace bw := below_grown bw k5 hgl bw.size
    replace hg1 := Nat.lt_of_lt_of_le hg1 k5.size
    clear k5
    have Hy := Lib.hid hy
    clear hy
    go_wp2_with fail
    refine (texts_o _ g B o5 hsrc hBs).mono ?_
    rintro e w7 ⟨vr, rs, o6, rfl, hrs, g6, hsrc', k6⟩
    replace hsrc := hsrc'
    clear hsrc'
    replace Z := Z.grown k6 hzg
    replace bw := below_grown bw k6 hgl bw.size
    have hg6 := Nat.lt_of_lt_of_le hg1 k6.size
    have Hrs : Hid (o6 ≠ none → OwnIn Cod.str w7 w6.heap.size w7.heap.size vr rs) := Lib.hid (fun hne => by
      obtain ⟨st, rfl⟩ := Option.ne_none_iff_exists'.1 hne
      refine (own_strs ?_ hrs).within
      cases o5 with
      | none => cases Got.none_step (f := textsO B) rfl g6
      | some s5 => exact fun j hj => Nat.le_trans (textsO_end g6 hne j hj) (by unfold maxLen; omega))
    obtain ⟨pr, cr, rfl⟩ : ∃ pr cr, vr = .slice pr rs.length cr := by
      rcases own_forms hrs with ⟨h1, h2⟩ | ⟨g', cap, h1⟩
      · exact ⟨none, 0, by rw [h1, h2]⟩
      · exact ⟨_, cap, h1⟩
    have hB7 := k6.size
    clear k6 hrs
    go_upto_region 6 with fail
    generalize hw8 : World.alloc _ _ = w8
    rw [Hy.out] at hw8
    have C : Blk w8 w7.heap.size 58 #[.int .i64 (n1 : Int), .int .i64 (n2 : Int), .int .i64 (n3 : Int), .int .i64 (n4 : Int), .slice pr rs.length cr, .slice none 0 0, .bool y] := by rw [← hw8]; exact Blk.new _ _ _
    replace Z : Blk w8 w.heap.size 58 #[.int .i64 0, .int .i64 0, .int .i64 0, .int .i64 0, .slice none 0 0, .slice none 0 0, .bool false] := by rw [← hw8]; exact Z.alloc _
    replace bw : Below w.heap.size w w8 := by rw [← hw8]; exact below_alloc _ bw
    replace hsrc : SrcO w8 g B o6 := by rw [← hw8]; exact hsrc.below (below_new _ _)
    have Hrs8 : Hid (o6 ≠ none → OwnIn Cod.str w8 w6.heap.size w7.heap.size (.slice pr rs.length cr) rs) := Lib.hid (fun h => by rw [← hw8]; exact (Hrs.out h).below (below_new _ _))
    have hC8 : w7.heap.size < w8.heap.size := C.lt
    have hgC : g < w7.heap.size := by omega
    clear Hrs hw8 Hy
    go_wp2_with fail
    refine (num_o _ g B o6 hsrc hBs).mono ?_
    rintro e w9 ⟨m, o7, rfl, hm, g7, hsrc', k7⟩
    replace hsrc := hsrc'
    clear hsrc'
    replace Z := Z.grown k7 hzg
    have hCg : w7.heap.size ≠ g := by omega
    replace C := C.grown k7 hCg
    replace bw := below_grown bw k7 hgl bw.size
    replace hC8 := Nat.lt_of_lt_of_le hC8 k7.size
    have Hrs := Lib.hid (fun h => (Hrs8.out h).grown k7 hg1)
    clear k7
    have hB8 := hC8
    go_wp2
    go_loopw [8] (fun i wr => ∃ (k d : Nat) (o : Option Nat) (l : List WriteD) (pa : Option Addr) (ca : Nat), i = .int .i64 (d : Int) ∧ k + d = m ∧ l.length = k ∧ Blk wr w.heap.size 58 #[.int .i64 0, .int .i64 0, .int .i64 0, .int .i64 0, .slice none 0 0, .slice none 0 0, .bool false] ∧ Blk wr w7.heap.size 58 #[.int .i64 (n1 : Int), .int .i64 (n2 : Int), .int .i64 (n3 : Int), .int .i64 (n4 : Int), .slice pr rs.length cr, .slice pa k ca, .bool y] ∧ SrcO wr g B o ∧ Hid (PartV Cod.write wr (w7.heap.size + 1) 81 (.slice pa k ca) k l) ∧ Hid (o6 ≠ none → OwnIn Cod.str wr w6.heap.size w7.heap.size (.slice pr rs.length cr) rs) ∧ Hid (WrAt B m o7 k l o) ∧ Below w.heap.size w wr ∧ w7.heap.size < wr.heap.size) (fun i _ => (intOf i).toNat)
    case atStart => exact ⟨0, m, o7, [], none, 0, rfl, by omega, rfl, Z, C, hsrc, Lib.hid (Or.inl ⟨none, rfl, rfl, rfl⟩), Hrs, Lib.hid (wat_start (fun st h => by subst h; obtain ⟨a, _, hst⟩ := hsrc; exact (hst st rfl).2)), bw, hC8⟩
    case round =>
      clear Z C hsrc Hrs bw hC8 Hrs8
      obtain ⟨k, d, o, l, pa, ca, rfl, hkd, hl, Z, C, hsrc, Hp, Hrs, Hwr, bw, hC8⟩ := hrel
      have hbad := hsrc.bad
      have c0 := C.cell 0 (v := .int .i64 (n1 : Int)) rfl
      have cf0 := C.frozen 0
      have c1 := C.cell 1 (v := .int .i64 (n2 : Int)) rfl
      have cf1 := C.frozen 1
      have c2 := C.cell 2 (v := .int .i64 (n3 : Int)) rfl
      have cf2 := C.frozen 2
      have c3 := C.cell 3 (v := .int .i64 (n4 : Int)) rfl
      have cf3 := C.frozen 3
      have c4 := C.cell 4 (v := .slice pr rs.length cr) rfl
      have cf4 := C.frozen 4
      have c5 := C.cell 5 (v := .slice pa k ca) rfl
      have cf5 := C.frozen 5
      have c6 := C.cell 6 (v := .bool y) rfl
      have cf6 := C.frozen 6
      cases o with
      | none =>
        have hbad2 : wr.cell? ⟨g, 2, none⟩ = some (.bool true) := hbad
        clear hbad
        have g8 := wat_end Hwr.out (by first | exact Or.inl rfl | exact Or.inr (by omega))
        have GR := rec_got g1 g2 g3 g4 g5 g6 g7 g8
        have HR := Lib.hid (HR1.out GR)
        clear Hp GR g8 g1 g2 g3 g4 g5 g6 g7 HR1 HR2 HR3
        rcases Nat.eq_zero_or_pos d with h0 | h0
        · subst h0
          have z0 := Z.cell 0 (v := .int .i64 0) rfl
          have zf0 := Z.frozen 0
          have z1 := Z.cell 1 (v := .int .i64 0) rfl
          have zf1 := Z.frozen 1
          have z2 := Z.cell 2 (v := .int .i64 0) rfl
          have zf2 := Z.frozen 2
          have z3 := Z.cell 3 (v := .int .i64 0) rfl
          have zf3 := Z.frozen 3
          have z4 := Z.cell 4 (v := .slice none 0 0) rfl
          have zf4 := Z.frozen 4
          have z5 := Z.cell 5 (v := .slice none 0 0) rfl
          have zf5 := Z.frozen 5
          have z6 := Z.cell 6 (v := .bool false) rfl
          have zf6 := Z.frozen 6
          go_wp2
          refine bodyPost_ret (v := .tuple #[.agg #[.int .i64 0, .int .i64 0, .int .i64 0, .int .i64 0, .slice none 0 0, .slice none 0 0, .bool false], .bool false]) (by simp [results, Try.results30, go_sem, z0, zf0, z1, zf1, z2, zf2, z3, zf3, z4, zf4, z5, zf5, z6, zf6]) rfl ?_
          exact rdrec_zero (HRr.out.trans HR.out) (by (repeat (first | (with_reducible exact Below.refl _ _) | (with_reducible refine below_setCell ?_ (by first | (simp; done) | (simp; omega) | omega)) | (with_reducible refine below_alloc _ ?_) | (with_reducible refine below_drewN ?_ _) | (with_reducible assumption) | (with_reducible refine below_after (by assumption) ?_))))
        · have h0I : (0 : Int) < (d : Int) := by omega
          have z0 := Z.cell 0 (v := .int .i64 0) rfl
          have zf0 := Z.frozen 0
          have z1 := Z.cell 1 (v := .int .i64 0) rfl
          have zf1 := Z.frozen 1
          have z2 := Z.cell 2 (v := .int .i64 0) rfl
          have zf2 := Z.frozen 2
          have z3 := Z.cell 3 (v := .int .i64 0) rfl
          have zf3 := Z.frozen 3
          have z4 := Z.cell 4 (v := .slice none 0 0) rfl
          have zf4 := Z.frozen 4
          have z5 := Z.cell 5 (v := .slice none 0 0) rfl
          have zf5 := Z.frozen 5
          have z6 := Z.cell 6 (v := .bool false) rfl
          have zf6 := Z.frozen 6
          go_wp2
          refine bodyPost_ret (v := .tuple #[.agg #[.int .i64 0, .int .i64 0, .int .i64 0, .int .i64 0, .slice none 0 0, .slice none 0 0, .bool false], .bool false]) (by simp [results, Try.results30, go_sem, z0, zf0, z1, zf1, z2, zf2, z3, zf3, z4, zf4, z5, zf5, z6, zf6]) rfl ?_
          exact rdrec_zero (HRr.out.trans HR.out) (by (repeat (first | (with_reducible exact Below.refl _ _) | (with_reducible refine below_setCell ?_ (by first | (simp; done) | (simp; omega) | omega)) | (with_reducible refine below_alloc _ ?_) | (with_reducible refine below_drewN ?_ _) | (with_reducible assumption) | (with_reducible refine below_after (by assumption) ?_))))
      | some st =>
        have hbad2 : wr.cell? ⟨g, 2, none⟩ = some (.bool false) := hbad
        clear hbad
        rcases Nat.eq_zero_or_pos d with h0 | h0
        · subst h0
          obtain rfl : k = m := by omega
          have g8 := wat_end Hwr.out (by first | exact Or.inl rfl | exact Or.inr (by omega))
          have GR := rec_got g1 g2 g3 g4 g5 g6 g7 g8
          have hR : recO B = some (⟨(n1 : Int), (n2 : Int), (n3 : Int), (n4 : Int), rs, l, y⟩, st) := GR
          have hne7 : o7 ≠ none := Got.pos (f := writesO k B) (writesO_none k B) g8
          have hne6 : o6 ≠ none := by
            obtain ⟨s7, rfl⟩ := Option.ne_none_iff_exists'.1 hne7
            exact Got.pos (f := numO B) rfl g7
          have hrl : rs.length ≤ 1048576 := by
            obtain ⟨s6, e6⟩ := Option.ne_none_iff_exists'.1 hne6
            have hne5 : o5 ≠ none := by rw [e6] at g6; exact Got.pos (f := textsO B) rfl g6
            obtain ⟨s5, e5⟩ := Option.ne_none_iff_exists'.1 hne5
            rw [e5] at g6
            exact Nat.le_trans (textsO_len g6 hne6) (by decide)
          have hll : l.length ≤ 1048576 := by have h1 := Hwr.out.2.1; have h2 := Hwr.out.2.2; omega
          have oR := Hrs.out hne6
          have oW := Hp.out.own hl
          subst hl
          clear Hwr Hp Hrs GR g1 g2 g3 g4 g5 g6 g7 g8 hne7 hne6 HR1 hsrc
          have Hg := Lib.hid (fun (W : World) ra rb => goodRec_any ⟨(n1 : Int), (n2 : Int), (n3 : Int), (n4 : Int), rs, l, y⟩ hrl hll W (.slice pr rs.length cr) (.slice pa l.length ca) ra rb)
          dsimp only at Hg
          obtain ⟨qg, hqg⟩ : ∃ q, goodRB ⟨(n1 : Int), (n2 : Int), (n3 : Int), (n4 : Int), rs, l, y⟩ = q := ⟨_, rfl⟩
          rw [hqg] at Hg
          have hz : w.heap.size < w7.heap.size := by omega
          cases qg
          · have HR := Lib.hid (HR2.out _ _ hR (by rw [hqg]; rfl))
            clear HR2 HR3 hR hqg
            go_wp2_with fail
            refine (Hg.out _ oR.rd oW.rd).mono ?_
            rintro e wg ⟨rfl, kg⟩
            replace Z := Z.below kg
            replace C := C.below kg
            replace oR := oR.below kg
            replace oW := oW.below kg
            replace bw : Below w.heap.size w wg := below_after kg bw
            have hszwg := kg.size
            clear kg
            have z0 := Z.cell 0 (v := .int .i64 0) rfl
            have zf0 := Z.frozen 0
            have z1 := Z.cell 1 (v := .int .i64 0) rfl
            have zf1 := Z.frozen 1
            have z2 := Z.cell 2 (v := .int .i64 0) rfl
            have zf2 := Z.frozen 2
            have z3 := Z.cell 3 (v := .int .i64 0) rfl
            have zf3 := Z.frozen 3
            have z4 := Z.cell 4 (v := .slice none 0 0) rfl
            have zf4 := Z.frozen 4
            have z5 := Z.cell 5 (v := .slice none 0 0) rfl
            have zf5 := Z.frozen 5
            have z6 := Z.cell 6 (v := .bool false) rfl
            have zf6 := Z.frozen 6
            go_wp2
            refine bodyPost_ret (v := .tuple #[.agg #[.int .i64 0, .int .i64 0, .int .i64 0, .int .i64 0, .slice none 0 0, .slice none 0 0, .bool false], .bool false]) (by simp [results, Try.results30, go_sem, z0, zf0, z1, zf1, z2, zf2, z3, zf3, z4, zf4, z5, zf5, z6, zf6]) rfl ?_
            exact rdrec_zero (HRr.out.trans HR.out) (by (repeat (first | (with_reducible exact Below.refl _ _) | (with_reducible refine below_setCell ?_ (by first | (simp; done) | (simp; omega) | omega)) | (with_reducible refine below_alloc _ ?_) | (with_reducible refine below_drewN ?_ _) | (with_reducible assumption) | (with_reducible refine below_after (by assumption) ?_))))
          · have hbd := goodRB_bounds hqg
            have hco := goodRB_cost hqg
            unfold costRec at hco
            dsimp only at hbd hco
            have Hb := Lib.hid (fun (W : World) ra rb => recBytes_any n1 n2 n3 n4 y rs l pr pa cr ca (by omega) (by omega) (by omega) (by omega) (by omega) (by omega) W ra rb)
            have hbb : recBB ⟨(n1 : Int), (n2 : Int), (n3 : Int), (n4 : Int), rs, l, y⟩ = sealB (wrsB (headB n1 n2 n3 n4 y rs l.length) l) := by unfold recBB; simp only [Int.toNat_natCast]
            have I1 : I64 (n1 : Int) := by unfold I64; omega
            have I2 : I64 (n2 : Int) := by unfold I64; omega
            have I3 : I64 (n3 : Int) := by unfold I64; omega
            have I4 : I64 (n4 : Int) := by unfold I64; omega
            generalize sealB (wrsB (headB n1 n2 n3 n4 y rs l.length) l) = S at *
            by_cases hSs : S = s
            · subst hSs
              have HR := Lib.hid (HR3.out _ _ hR (by rw [hqg, hbb]; simp))
              clear HR2 HR3 hR hqg hbb hbd hco
              go_wp2_with fail
              refine (Hg.out _ oR.rd oW.rd).mono ?_
              rintro e wg ⟨rfl, kg⟩
              replace Z := Z.below kg
              replace C := C.below kg
              replace oR := oR.below kg
              replace oW := oW.below kg
              replace bw : Below w.heap.size w wg := below_after kg bw
              have hszwg := kg.size
              clear kg
              have e0 := C.cell 0 (v := .int .i64 (n1 : Int)) rfl
              have ff0 := C.frozen 0
              have e1 := C.cell 1 (v := .int .i64 (n2 : Int)) rfl
              have ff1 := C.frozen 1
              have e2 := C.cell 2 (v := .int .i64 (n3 : Int)) rfl
              have ff2 := C.frozen 2
              have e3 := C.cell 3 (v := .int .i64 (n4 : Int)) rfl
              have ff3 := C.frozen 3
              have e4 := C.cell 4 (v := .slice pr rs.length cr) rfl
              have ff4 := C.frozen 4
              have e5 := C.cell 5 (v := .slice pa l.length ca) rfl
              have ff5 := C.frozen 5
              have e6 := C.cell 6 (v := .bool y) rfl
              have ff6 := C.frozen 6
              go_wp2_with fail
              refine (Hb.out _ oR.rd oW.rd).mono ?_
              rintro e wh ⟨rfl, kh⟩
              replace Z := Z.below kh
              replace C := C.below kh
              replace oR := oR.below kh
              replace oW := oW.below kh
              replace bw : Below w.heap.size w wh := below_after kh bw
              have hszwh := kh.size
              clear kh
              have d0 := C.cell 0 (v := .int .i64 (n1 : Int)) rfl
              have dg0 := C.frozen 0
              have d1 := C.cell 1 (v := .int .i64 (n2 : Int)) rfl
              have dg1 := C.frozen 1
              have d2 := C.cell 2 (v := .int .i64 (n3 : Int)) rfl
              have dg2 := C.frozen 2
              have d3 := C.cell 3 (v := .int .i64 (n4 : Int)) rfl
              have dg3 := C.frozen 3
              have d4 := C.cell 4 (v := .slice pr rs.length cr) rfl
              have dg4 := C.frozen 4
              have d5 := C.cell 5 (v := .slice pa l.length ca) rfl
              have dg5 := C.frozen 5
              have d6 := C.cell 6 (v := .bool y) rfl
              have dg6 := C.frozen 6
              have z0 := Z.cell 0 (v := .int .i64 0) rfl
              have zf0 := Z.frozen 0
              have z1 := Z.cell 1 (v := .int .i64 0) rfl
              have zf1 := Z.frozen 1
              have z2 := Z.cell 2 (v := .int .i64 0) rfl
              have zf2 := Z.frozen 2
              have z3 := Z.cell 3 (v := .int .i64 0) rfl
              have zf3 := Z.frozen 3
              have z4 := Z.cell 4 (v := .slice none 0 0) rfl
              have zf4 := Z.frozen 4
              have z5 := Z.cell 5 (v := .slice none 0 0) rfl
              have zf5 := Z.frozen 5
              have z6 := Z.cell 6 (v := .bool false) rfl
              have zf6 := Z.frozen 6
              go_wp2
              refine bodyPost_ret (v := .tuple #[.agg #[.int .i64 (n1 : Int), .int .i64 (n2 : Int), .int .i64 (n3 : Int), .int .i64 (n4 : Int), .slice pr rs.length cr, .slice pa l.length ca, .bool y], .bool true]) (by simp [results, Try.results30, go_sem, z0, zf0, z1, zf1, z2, zf2, z3, zf3, z4, zf4, z5, zf5, z6, zf6]) rfl ?_
              refine ⟨⟨(n1 : Int), (n2 : Int), (n3 : Int), (n4 : Int), rs, l, y⟩, true, pr, cr, pa, ca, HRr.out.trans HR.out, rfl, ?_, by (repeat (first | (with_reducible exact Below.refl _ _) | (with_reducible refine below_setCell ?_ (by first | (simp; done) | (simp; omega) | omega)) | (with_reducible refine below_alloc _ ?_) | (with_reducible refine below_drewN ?_ _) | (with_reducible assumption) | (with_reducible refine below_after (by assumption) ?_)))⟩
              refine (rown_rec (mid := w7.heap.size + 1) I1 I2 I3 I4 ((oR.keepB (B := w.heap.size + 1) ?_ ?_).up (Nat.le_succ _)) (oW.keep (B := w.heap.size + 1) ?_ ?_) (by omega)).mono (by omega)
              · omega
              · (repeat (first | (with_reducible exact Keep.refl _ _) | (with_reducible refine keep_set ?_ (by first | (simp; done) | (simp; omega) | omega)) | (with_reducible refine keep_alloc _ ?_) | (with_reducible refine keep_drewN ?_ _) | (with_reducible assumption) | (with_reducible refine keep_below (by assumption) ?_)))
              · omega
              · (repeat (first | (with_reducible exact Keep.refl _ _) | (with_reducible refine keep_set ?_ (by first | (simp; done) | (simp; omega) | omega)) | (with_reducible refine keep_alloc _ ?_) | (with_reducible refine keep_drewN ?_ _) | (with_reducible assumption) | (with_reducible refine keep_below (by assumption) ?_)))
            · have HR := Lib.hid (HR2.out _ _ hR (by rw [hqg, hbb]; simp [hSs]))
              have hne := str_ne hSs
              clear HR2 HR3 hR hqg hbb hbd hco hSs
              go_wp2_with fail
              refine (Hg.out _ oR.rd oW.rd).mono ?_
              rintro e wg ⟨rfl, kg⟩
              replace Z := Z.below kg
              replace C := C.below kg
              replace oR := oR.below kg
              replace oW := oW.below kg
              replace bw : Below w.heap.size w wg := below_after kg bw
              have hszwg := kg.size
              clear kg
              have e0 := C.cell 0 (v := .int .i64 (n1 : Int)) rfl
              have ff0 := C.frozen 0
              have e1 := C.cell 1 (v := .int .i64 (n2 : Int)) rfl
              have ff1 := C.frozen 1
              have e2 := C.cell 2 (v := .int .i64 (n3 : Int)) rfl
              have ff2 := C.frozen 2
              have e3 := C.cell 3 (v := .int .i64 (n4 : Int)) rfl
              have ff3 := C.frozen 3
              have e4 := C.cell 4 (v := .slice pr rs.length cr) rfl
              have ff4 := C.frozen 4
              have e5 := C.cell 5 (v := .slice pa l.length ca) rfl
              have ff5 := C.frozen 5
              have e6 := C.cell 6 (v := .bool y) rfl
              have ff6 := C.frozen 6
              go_wp2_with fail
              refine (Hb.out _ oR.rd oW.rd).mono ?_
              rintro e wh ⟨rfl, kh⟩
              replace Z := Z.below kh
              replace C := C.below kh
              replace oR := oR.below kh
              replace oW := oW.below kh
              replace bw : Below w.heap.size w wh := below_after kh bw
              have hszwh := kh.size
              clear kh
              have z0 := Z.cell 0 (v := .int .i64 0) rfl
              have zf0 := Z.frozen 0
              have z1 := Z.cell 1 (v := .int .i64 0) rfl
              have zf1 := Z.frozen 1
              have z2 := Z.cell 2 (v := .int .i64 0) rfl
              have zf2 := Z.frozen 2
              have z3 := Z.cell 3 (v := .int .i64 0) rfl
              have zf3 := Z.frozen 3
              have z4 := Z.cell 4 (v := .slice none 0 0) rfl
              have zf4 := Z.frozen 4
              have z5 := Z.cell 5 (v := .slice none 0 0) rfl
              have zf5 := Z.frozen 5
              have z6 := Z.cell 6 (v := .bool false) rfl
              have zf6 := Z.frozen 6
              go_wp2
              refine bodyPost_ret (v := .tuple #[.agg #[.int .i64 0, .int .i64 0, .int .i64 0, .int .i64 0, .slice none 0 0, .slice none 0 0, .bool false], .bool false]) (by simp [results, Try.results30, go_sem, z0, zf0, z1, zf1, z2, zf2, z3, zf3, z4, zf4, z5, zf5, z6, zf6]) rfl ?_
              exact rdrec_zero (HRr.out.trans HR.out) (by (repeat (first | (with_reducible exact Below.refl _ _) | (with_reducible refine below_setCell ?_ (by first | (simp; done) | (simp; omega) | omega)) | (with_reducible refine below_alloc _ ?_) | (with_reducible refine below_drewN ?_ _) | (with_reducible assumption) | (with_reducible refine below_after (by assumption) ?_))))
        · have h0I : (0 : Int) < (d : Int) := by omega
          have Hroom : Hid ((k + 1) * 40 ≤ room) := Lib.hid (by have h1 := Hwr.out.2.1; have h2 := Hwr.out.2.2; unfold room; omega)
          have Hl := Lib.hid hl
          have hkm : k < m := by omega
          clear HR1 HR2 HR3 HRr hl
          go_upto_region 9 with fail
          refine wp_region_d 11 (fun w' => w'.cell? ⟨w7.heap.size, 5, none⟩ = some (.slice pa k ca) ∧ w'.cell? ⟨w7.heap.size, 4, none⟩ = some (.slice pr rs.length cr)) (by kernel_rfl) ?_
          have hS : wr.drew.cell? ⟨w7.heap.size, 5, none⟩ = some (.slice pa k ca) ∧ wr.drew.cell? ⟨w7.heap.size, 4, none⟩ = some (.slice pr rs.length cr) := ⟨c5, c4⟩
          refine d_take (f := 30) (v := ?_) 0 rfl (by kernel_rfl) (fun _ _ _ h => h) (Or.inl ⟨by rfl, ?_⟩) hS ?_
          rotate_left
          · intro wx hx
            obtain ⟨x0, x1⟩ := hx
            first | (go_simp; done) | (go_simp; with_reducible rfl)
          simp only [Act.put, List.setIfInBounds_toArray, List.set_cons_zero, List.set_cons_succ]
          refine d_take (f := 30) (v := ?_) 1 rfl (by kernel_rfl) (fun _ _ _ h => h) (Or.inl ⟨by rfl, ?_⟩) hS ?_
          rotate_left
          · intro wx hx
            obtain ⟨x0, x1⟩ := hx
            first | (go_simp; done) | (go_simp; with_reducible rfl)
          simp only [Act.put, List.setIfInBounds_toArray, List.set_cons_zero, List.set_cons_succ]
          refine d_take (f := 30) (v := ?_) 2 rfl (by kernel_rfl) (fun _ _ _ h => h) (Or.inl ⟨by rfl, ?_⟩) hS ?_
          rotate_left
          · intro wx hx
            obtain ⟨x0, x1⟩ := hx
            first | (go_simp; done) | (go_simp; with_reducible rfl)
          simp only [Act.put, List.setIfInBounds_toArray, List.set_cons_zero, List.set_cons_succ]
          refine d_take (f := 30) (v := ?_) 4 rfl (by kernel_rfl) (fun _ _ _ h => h) (Or.inl ⟨by rfl, ?_⟩) hS ?_
          rotate_left
          · intro wx hx
            obtain ⟨x0, x1⟩ := hx
            first | (go_simp; done) | (go_simp; with_reducible rfl)
          simp only [Act.put, List.setIfInBounds_toArray, List.set_cons_zero, List.set_cons_succ]
          refine d_take (f := 30) (v := ?_) 7 rfl (by kernel_rfl) (fun _ _ _ h => h) (Or.inl ⟨by rfl, ?_⟩) hS ?_
          rotate_left
          · intro wx hx
            obtain ⟨x0, x1⟩ := hx
            first | (go_simp; done) | (go_simp; with_reducible rfl)
          simp only [Act.put, List.setIfInBounds_toArray, List.set_cons_zero, List.set_cons_succ]
          have bd : Below wr.heap.size wr wr.drew := (Below.refl _ _).drew
          replace Z := Z.below bd
          replace C := C.below bd
          replace hsrc := hsrc.below bd
          replace Hp := Lib.hid (Hp.out.below bd)
          replace Hrs := Lib.hid (fun h => (Hrs.out h).below bd)
          replace bw : Below w.heap.size w wr.drew := bw.drew
          clear bd c0 c1 c2 c3 c4 c5 c6 cf0 cf1 cf2 cf3 cf4 cf5 cf6 hbad2
          refine d_step 3 (by kernel_rfl) rfl (fun K hK => ?_)
          go_simp
          go_at_call 79
          refine (text_o _ g B (some st) hsrc hBs).mono ?_
          rintro e wa ⟨a, p1, rfl, ha60, q1, hsrc1, ka⟩
          replace Z := Z.grown ka hzg
          replace C := C.grown ka hCg
          replace Hp := Lib.hid (Hp.out.keep (grown_keep ka (Nat.lt_succ_of_lt hgC)))
          replace Hrs := Lib.hid (fun h => (Hrs.out h).grown ka hg1)
          replace bw := below_grown bw ka hgl bw.size
          replace hC8 := Nat.lt_of_lt_of_le hC8 ka.size
          have hSwa : wa.cell? ⟨w7.heap.size, 5, none⟩ = some (.slice pa k ca) ∧ wa.cell? ⟨w7.heap.size, 4, none⟩ = some (.slice pr rs.length cr) := ⟨C.cell 5 rfl, C.cell 4 rfl⟩
          clear ka
          refine hK.out _ _ (fun _ => hSwa) ?_
          clear hK K hsrc hS
          try simp only [Act.put, List.setIfInBounds_toArray, List.set_cons_zero, List.set_cons_succ]
          refine d_step 5 (by kernel_rfl) rfl (fun K hK => ?_)
          go_simp
          go_at_call 77
          refine (take_o _ g B p1 hsrc1 hBs).mono ?_
          rintro e wb ⟨sy2, y2, p2, rfl, hy2', q2, hsrc2, kb⟩
          replace Z := Z.grown kb hzg
          replace C := C.grown kb hCg
          replace Hp := Lib.hid (Hp.out.keep (grown_keep kb (Nat.lt_succ_of_lt hgC)))
          replace Hrs := Lib.hid (fun h => (Hrs.out h).grown kb hg1)
          replace bw := below_grown bw kb hgl bw.size
          replace hC8 := Nat.lt_of_lt_of_le hC8 kb.size
          have hSwb : wb.cell? ⟨w7.heap.size, 5, none⟩ = some (.slice pa k ca) ∧ wb.cell? ⟨w7.heap.size, 4, none⟩ = some (.slice pr rs.length cr) := ⟨C.cell 5 rfl, C.cell 4 rfl⟩
          clear kb
          subst hy2'
          refine hK.out _ _ (fun _ => hSwb) ?_
          clear hK K hsrc1 hSwa
          try simp only [Act.put, List.setIfInBounds_toArray, List.set_cons_zero, List.set_cons_succ]
          refine d_takeY (v := ?_) 6 rfl (by kernel_rfl) (fun _ _ _ h => h) (Or.inl ⟨by rfl, ?_⟩) hSwb ?_
          rotate_left
          · intro wx _
            first | (go_simp; done) | (go_simp; with_reducible rfl)
          simp only [Act.put, List.setIfInBounds_toArray, List.set_cons_zero, List.set_cons_succ]
          refine d_step 8 (by kernel_rfl) rfl (fun K hK => ?_)
          go_simp
          go_at_call 79
          refine (text_o _ g B p2 hsrc2 hBs).mono ?_
          rintro e wc ⟨b, p3, rfl, hb60, q3, hsrc3, kc⟩
          replace Z := Z.grown kc hzg
          replace C := C.grown kc hCg
          replace Hp := Lib.hid (Hp.out.keep (grown_keep kc (Nat.lt_succ_of_lt hgC)))
          replace Hrs := Lib.hid (fun h => (Hrs.out h).grown kc hg1)
          replace bw := below_grown bw kc hgl bw.size
          replace hC8 := Nat.lt_of_lt_of_le hC8 kc.size
          have hSwc : wc.cell? ⟨w7.heap.size, 5, none⟩ = some (.slice pa k ca) ∧ wc.cell? ⟨w7.heap.size, 4, none⟩ = some (.slice pr rs.length cr) := ⟨C.cell 5 rfl, C.cell 4 rfl⟩
          clear kc
          refine hK.out _ _ (fun _ => hSwc) ?_
          clear hK K hsrc2 hSwb
          try simp only [Act.put, List.setIfInBounds_toArray, List.set_cons_zero, List.set_cons_succ]
          refine d_takeY (v := ?_) 9 rfl (by kernel_rfl) (fun _ _ _ h => h) (Or.inl ⟨by rfl, ?_⟩) hSwc ?_
          rotate_left
          · intro wx _
            first | (go_simp; done) | (go_simp; with_reducible rfl)
          simp only [Act.put, List.setIfInBounds_toArray, List.set_cons_zero, List.set_cons_succ]
          refine d_step 10 (by kernel_rfl) rfl (fun K hK => ?_)
          go_simp
          refine hK.out _ _ (fun _ => ⟨(cell_alloc_old hC8).trans hSwc.1, (cell_alloc_old hC8).trans hSwc.2⟩) ?_
          clear hK K
          try simp only [Act.put, List.setIfInBounds_toArray, List.set_cons_zero, List.set_cons_succ]
          have Hx : Hid (Cod.write.rd wc (lst [.string a, .string b, .bool (sy2.toList == [1])]) ⟨a, b, sy2.toList == [1]⟩ []) := Lib.hid (mk_write (x := ⟨a, b, sy2.toList == [1]⟩) rfl (Nat.le_trans ha60 (by decide)) rfl (Nat.le_trans hb60 (by decide)) rfl)
          have Hwr2 := Lib.hid (wat_step Hwr.out hkm q1 q2 q3)
          refine d_step 11 (by kernel_rfl) rfl (fun K hK => ?_)
          refine step_append_partK (c := Cod.write) wc rfl (.tmp 48) (.tmp 57) 40 rfl (w7.heap.size + 1) 81 81 i0 (.agg #[.string ⟨#[]⟩, .string ⟨#[]⟩, .bool false]) 40 Try.underlying40 hi hy0 hy1 hy2 rfl (by decide) (by decide) wc (.slice pa k ca) k l (by simp [Act.eval, Act.put]) Hp.out Hl.out (Below.refl _ _) ⟨a, b, sy2.toList == [1]⟩ [] [.string a, .string b, .bool (sy2.toList == [1])] rfl Hx.out (Mine.nil _ _) wc.heap.size rfl (by simp [Act.eval, Act.put]) (by simp [Value.oneCell']) Hroom.out hC8 ?_
          intro g' cap' w4 hp4 hb4 _
          have Hp4 := Lib.hid hp4
          have hlt4 : w7.heap.size < w7.heap.size + 1 := Nat.lt_succ_self _
          have Z4 := Z.belowB hb4 (by omega)
          have C4 := C.belowB hb4 hlt4
          have hsrc4 := hsrc3.of_block (hb4.block g (by omega))
          have Hrs4 := Lib.hid (fun h => ((Hrs.out h).belowB hb4 (Nat.le_succ _)).set (b := w7.heap.size) (i := 5) (u := .slice (some ⟨g', 0, none⟩) (k + 1) cap') (Or.inr (Nat.le_refl _)))
          have bw4 : Below w.heap.size w w4 := bw.trans (hb4.mono (by omega))
          have a5 := C4.cell 5 (v := .slice pa k ca) rfl
          have f5 := C4.frozen 5
          have z4 : w7.heap.size < w4.heap.size := C4.lt
          clear hp4 Hp Hrs Z C hsrc3 bw q1 q2 q3
          refine hK.out _ _ (fun h => by exact absurd h (by decide)) ?_
          clear hK K
          try simp only [Act.put, List.setIfInBounds_toArray, List.set_cons_zero, List.set_cons_succ]
          refine d_step 12 (by kernel_rfl) rfl (fun K hK => ?_)
          go_simp
          refine hK.out _ _ (fun h => by exact absurd h (by decide)) ?_
          clear hK K
          try simp only [Act.put, List.setIfInBounds_toArray, List.set_cons_zero, List.set_cons_succ]
          refine d_step 13 (by kernel_rfl) rfl (fun K hK => ?_)
          go_simp
          refine hK.out _ _ (fun h => by exact absurd h (by decide)) ?_
          clear hK K
          refine d_done (by kernel_rfl) ?_ _
          try simp only [Act.put, List.setIfInBounds_toArray, List.set_cons_zero, List.set_cons_succ]
          have C5 : Blk (w4.setCell ⟨w7.heap.size, 5, none⟩ (.slice (some ⟨g', 0, none⟩) (k + 1) cap')) w7.heap.size 58 #[.int .i64 (n1 : Int), .int .i64 (n2 : Int), .int .i64 (n3 : Int), .int .i64 (n4 : Int), .slice pr rs.length cr, .slice (some ⟨g', 0, none⟩) (k + 1) cap', .bool y] := C4.set 5 (.slice (some ⟨g', 0, none⟩) (k + 1) cap')
          have Z5 := Z4.other (b := w7.heap.size) 5 (.slice (some ⟨g', 0, none⟩) (k + 1) cap') (by omega)
          have hsrc5 := hsrc4.of_block (Below.heap_setCell w4 ⟨w7.heap.size, 5, none⟩ (.slice (some ⟨g', 0, none⟩) (k + 1) cap') g (by show g ≠ w7.heap.size; omega))
          have Hp5 : Hid (PartV Cod.write (w4.setCell ⟨w7.heap.size, 5, none⟩ (.slice (some ⟨g', 0, none⟩) (k + 1) cap')) (w7.heap.size + 1) 81 (.slice (some ⟨g', 0, none⟩) (k + 1) cap') (k + 1) (l ++ [⟨a, b, sy2.toList == [1]⟩])) := Lib.hid (PartV.keep (Or.inr Hp4.out) (keep_set (Keep.refl _ _) hlt4))
          have bw5 := below_setCell (p := ⟨w7.heap.size, 5, none⟩) (u := .slice (some ⟨g', 0, none⟩) (k + 1) cap') bw4 (by show w.heap.size ≤ w7.heap.size; omega)
          have Hl5 : Hid ((l ++ [(⟨a, b, sy2.toList == [1]⟩ : WriteD)]).length = k + 1) := Lib.hid (by rw [List.length_append, Hl.out]; rfl)
          clear Z4 C4 hsrc4 Hp4 bw4
          go_wp2
          go_roundw
          case rel => exact ⟨k + 1, d - 1, p3, _, some ⟨g', 0, none⟩, cap', congrArg (Value.int .i64) (by omega), by omega, Hl5.out, Z5, C5, hsrc5, Hp5, Hrs4, Hwr2, bw5, by simp; exact z4⟩
          case measure => simp [intOf]; omega


end Go.Proofs.Ytbkhooklieangaa
