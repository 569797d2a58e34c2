/- laws.markRec, laws.heldRec: what is marked is held. -/
import Derived.Test.YtpiheobpobclgaaGreatDoorRecm
import Derived.Test.YtpiheobpobclgaaGreatDoorMark2
namespace Go.Proofs.YtpiheobpobclgaaGreatDoor
open Go.RowKit

theorem ROwn.two {w : World} {lo hi : Nat} {y : RecD} {a b : Value} (h : ROwn Cod.recd w lo hi (recVs y a b) y) : Own2 Cod.str Cod.write w lo hi a b y.Reads y.Writes := by
  obtain ⟨f, ⟨_, _, rfl, ⟨_, _, rfl⟩, ⟨_, _, rfl, ⟨_, _, rfl⟩, ⟨_, _, rfl, ⟨_, _, rfl⟩, ⟨_, _, rfl, ⟨_, _, rfl⟩, ⟨f1, _, rfl, ⟨u1, h4, s1⟩, ⟨f2, _, rfl, ⟨u2, h5, s2⟩, ⟨_, _, rfl⟩⟩⟩⟩⟩⟩⟩, hm, hlt⟩ := h
  have e4 : some a = some u1 := h4
  have e5 : some b = some u2 := h5
  injection e4 with e4
  injection e5 with e5
  subst e4 e5
  simp only [List.nil_append, List.append_nil] at hm hlt
  exact ⟨f1, f2, s1, s2, hm, hlt⟩

set_option maxRecDepth 100000 in
/-- laws.markRec -/
theorem markRec_h (k0 : Nat) (h0 : 0 < k0) (y : RecD) (a b : Value) (lo hi : Nat) (u : World) (hhi : hi ≤ u.heap.size) (h : Own2 Cod.str Cod.write u lo hi a b y.Reads y.Writes) (hL : k0 + LRecM y ≤ 1073741824) :
    Calls Tryz.prog 7 #[.agg #[.int .i64 y.Kind, .int .i64 y.Txn, .int .i64 y.Time, .int .i64 y.Lead, a, b, .bool y.Yes], .int .i64 (k0 : Int)] u fun e u' => e = .returned (.int .i64 ((k0 + LRecM y : Nat) : Int)) ∧
      HeldS PT.tstr u' a k0 (sumN LString y.Reads) ∧ HeldS PT.twrite u' b (k0 + sumN LString y.Reads) (sumN LWrite y.Writes) ∧ Turn lo hi u u' := by
  unfold LRecM at hL ⊢
  have Hc1 : Hid (∀ W, Below u.heap.size u W → Calls Tryz.prog 23 #[a, .int .i64 (k0 : Int)] W fun e u' => e = .returned (.int .i64 ((k0 + sumN LString y.Reads : Nat) : Int)) ∧ (∃ f1 f2, Half PT.tstr Cod.write u' lo hi a b y.Writes k0 (sumN LString y.Reads) f1 f2) ∧ Turn lo hi W u') := Lib.hid fun W k => by
    obtain ⟨f1, f2, h1, h2, h3, h4⟩ := (h.below k).first fitsString
    refine (markStringS_p k0 h0 a f1 W h1 h2 (by rw [h3]; omega)).mono ?_
    rintro e u' ⟨rfl, st⟩
    exact ⟨by rw [h3], ⟨f1, f2, (h4 u' k0 st).1⟩, (h4 u' k0 st).2⟩
  have Hc2 : Hid (∀ (W : World) (f1 f2 : List Nat), Half PT.tstr Cod.write W lo hi a b y.Writes k0 (sumN LString y.Reads) f1 f2 → Calls Tryz.prog 24 #[b, .int .i64 ((k0 + sumN LString y.Reads : Nat) : Int)] W fun e u' => e = .returned (.int .i64 ((k0 + sumN LString y.Reads + sumN LWrite y.Writes : Nat) : Int)) ∧
      HeldS PT.tstr u' a k0 (sumN LString y.Reads) ∧ HeldS PT.twrite u' b (k0 + sumN LString y.Reads) (sumN LWrite y.Writes) ∧ Turn lo hi W u') := Lib.hid fun W f1 f2 hh => by
    obtain ⟨h1, h2, h3, h4⟩ := hh.second fitsWrite
    refine (markWriteS_p (k0 + sumN LString y.Reads) (by omega) b f2 W h1 h2 (by rw [h3]; omega)).mono ?_
    rintro e u' ⟨rfl, st⟩
    exact ⟨by rw [h3], h4 u' _ st⟩
  obtain ⟨pa, ca, ha⟩ := h.rd1.form
  obtain ⟨pb, cb, hb⟩ := h.rd2.form
  obtain rfl := ha.1
  obtain rfl := hb.1
  clear ha hb h
  obtain ⟨yK, yT, yTi, yL, yR, yW, yY⟩ := y
  dsimp only at *
  obtain ⟨L1, hL1⟩ : ∃ L1, k0 + sumN LString yR = L1 := ⟨_, rfl⟩
  obtain ⟨L2, hL2⟩ : ∃ L2, L1 + sumN LWrite yW = L2 := ⟨_, rfl⟩
  rw [hL1] at Hc1 Hc2
  rw [hL2] at Hc2
  rw [hL1, show k0 + (sumN LString yR + sumN LWrite yW) = L2 from by omega]
  clear hL1 hL2 hL
  generalize sumN LString yR = S1 at *
  generalize sumN LWrite yW = S2 at *
  generalize yR.length = nR at *
  generalize yW.length = nW at *
  go_enter Tryz.func7, Tryz.ntmps7
  go_wp2_with fail
  refine (Hc1.out _ (by (repeat (first | (with_reducible exact Below.refl _ _) | (with_reducible refine below_setCell ?_ (by first | (simp; done) | (simp; omega) | omega)) | (with_reducible refine below_alloc _ ?_) | (with_reducible refine below_drewN ?_ _) | (with_reducible assumption) | (with_reducible refine below_after (by assumption) ?_))))).mono ?_
  rintro e w1 ⟨rfl, ⟨f1, f2, hh⟩, t1⟩
  have T1 : Hid (Turn lo hi u w1) := Lib.hid (Turn.after (by (repeat (first | (with_reducible exact Below.refl _ _) | (with_reducible refine below_setCell ?_ (by first | (simp; done) | (simp; omega) | omega)) | (with_reducible refine below_alloc _ ?_) | (with_reducible refine below_drewN ?_ _) | (with_reducible assumption) | (with_reducible refine below_after (by assumption) ?_)))) t1)
  have c5 : w1.cell? ⟨u.heap.size, 5, none⟩ = some (.slice pb nW cb) := t1.cell (by simp [go_sem]) (Or.inr hhi)
  have Hh := Lib.hid hh
  clear t1 hh
  go_wp2_with fail
  refine (Hc2.out _ _ _ (Hh.out.below (by (repeat (first | (with_reducible exact Below.refl _ _) | (with_reducible refine below_setCell ?_ (by first | (simp; done) | (simp; omega) | omega)) | (with_reducible refine below_alloc _ ?_) | (with_reducible refine below_drewN ?_ _) | (with_reducible assumption) | (with_reducible refine below_after (by assumption) ?_)))))).mono ?_
  rintro e w2 ⟨rfl, s1, s2, t2⟩
  have T2 := Lib.hid (T1.out.trans (Turn.after (by (repeat (first | (with_reducible exact Below.refl _ _) | (with_reducible refine below_setCell ?_ (by first | (simp; done) | (simp; omega) | omega)) | (with_reducible refine below_alloc _ ?_) | (with_reducible refine below_drewN ?_ _) | (with_reducible assumption) | (with_reducible refine below_after (by assumption) ?_)))) t2))
  have S1' := Lib.hid s1
  have S2' := Lib.hid s2
  clear s1 s2 t2
  go_wp2
  go_ret
  exact ⟨rfl, S1'.out, S2'.out, T2.out⟩

set_option maxRecDepth 100000 in
/-- laws.heldRec -/
theorem heldRec_h (k0 : Nat) (h0 : 0 < k0) (K T Ti Le : Int) (Y : Bool) (a b : Value) (L1 L2 : Nat) (u : World) (h1 : HeldS PT.tstr u a k0 L1) (h2 : HeldS PT.twrite u b (k0 + L1) L2) (hL : k0 + L1 + L2 ≤ 1073741824) :
    Calls Tryz.prog 8 #[.agg #[.int .i64 K, .int .i64 T, .int .i64 Ti, .int .i64 Le, a, b, .bool Y], .int .i64 (k0 : Int)] u fun e u' => e = .returned (.int .i64 ((k0 + L1 + L2 : Nat) : Int)) ∧ Below u.heap.size u u' := by
  have Hc1 := Lib.hid (fun (W : World) (k : Below u.heap.size u W) => heldStringS_p k0 h0 a L1 W (h1.below k) (by omega))
  have Hc2 := Lib.hid (fun (W : World) (k : Below u.heap.size u W) => heldWriteS_p (k0 + L1) (by omega) b L2 W (h2.below k) hL)
  obtain ⟨pa, na, ca, rfl, -⟩ := h1.form
  obtain ⟨pb, nb, cb, rfl, -⟩ := h2.form
  clear h1 h2
  obtain ⟨M1, hM1⟩ : ∃ M1, k0 + L1 = M1 := ⟨_, rfl⟩
  rw [hM1] at Hc1 Hc2 hL ⊢
  obtain ⟨M2, hM2⟩ : ∃ M2, M1 + L2 = M2 := ⟨_, rfl⟩
  rw [hM2] at Hc2 hL ⊢
  have hn1 : (0 : Int) ≤ (M1 : Int) := by omega
  have hn2 : (0 : Int) ≤ (M2 : Int) := by omega
  clear hM1 hM2
  go_enter Tryz.func8, Tryz.ntmps8
  go_wp2_with fail
  refine (Hc1.out _ (by (repeat (first | (with_reducible exact Below.refl _ _) | (with_reducible refine below_setCell ?_ (by first | (simp; done) | (simp; omega) | omega)) | (with_reducible refine below_alloc _ ?_) | (with_reducible refine below_drewN ?_ _) | (with_reducible assumption) | (with_reducible refine below_after (by assumption) ?_))))).mono ?_
  rintro e w1 ⟨rfl, k1⟩
  have c5 : w1.cell? ⟨u.heap.size, 5, none⟩ = some (.slice pb nb cb) := by rw [(bcell k1).1 _ _ (by first | (simp; done) | (simp; omega))]; simp [go_sem]
  have b1 : Below u.heap.size u w1 := below_after k1 (by (repeat (first | (with_reducible exact Below.refl _ _) | (with_reducible refine below_setCell ?_ (by first | (simp; done) | (simp; omega) | omega)) | (with_reducible refine below_alloc _ ?_) | (with_reducible refine below_drewN ?_ _) | (with_reducible assumption) | (with_reducible refine below_after (by assumption) ?_))))
  clear k1
  go_wp2_with fail
  refine (Hc2.out _ (by (repeat (first | (with_reducible exact Below.refl _ _) | (with_reducible refine below_setCell ?_ (by first | (simp; done) | (simp; omega) | omega)) | (with_reducible refine below_alloc _ ?_) | (with_reducible refine below_drewN ?_ _) | (with_reducible assumption) | (with_reducible refine below_after (by assumption) ?_))))).mono ?_
  rintro e w2 ⟨rfl, k2⟩
  have b2 : Below u.heap.size u w2 := below_after k2 (by (repeat (first | (with_reducible exact Below.refl _ _) | (with_reducible refine below_setCell ?_ (by first | (simp; done) | (simp; omega) | omega)) | (with_reducible refine below_alloc _ ?_) | (with_reducible refine below_drewN ?_ _) | (with_reducible assumption) | (with_reducible refine below_after (by assumption) ?_))))
  clear k2
  go_wp2
  go_ret
  exact ⟨rfl, b2⟩

end Go.Proofs.YtpiheobpobclgaaGreatDoor
