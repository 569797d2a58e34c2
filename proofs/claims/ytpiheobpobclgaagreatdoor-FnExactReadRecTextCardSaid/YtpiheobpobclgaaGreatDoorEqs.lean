/- Plain lemmas and contracts that all proofs of this seat lean on: bundle Eqs. -/
import Derived.Test.YtpiheobpobclgaaGreatDoorRowd
import Derived.Test.YtpiheobpobclgaaGreatDoorGoodr
/- laws.eqWrite, laws.eqWriteS of equal data. Printed by mkdata.py. -/
namespace Go.Proofs.YtpiheobpobclgaaGreatDoor
open Go.RowKit

set_option maxRecDepth 100000 in
set_option maxHeartbeats 1600000 in
/-- laws.eqWrite -/
theorem eqWrite_d (x : WriteD) (w : World) :
    Calls Tryz.prog 42 #[.agg #[.string x.Key, .string x.Val, .bool x.Gone], .agg #[.string x.Key, .string x.Val, .bool x.Gone]] w fun e w' => e = .returned (.bool true) ∧ Below w.heap.size w w' := by
  obtain ⟨xKey, xVal, xGone⟩ := x
  simp only at *
  go_enter Tryz.func42, Tryz.ntmps42
  go_wp2
  go_ret
  exact ⟨rfl, by (repeat (first | exact Below.refl _ _ | exact below_new _ _ | refine below_setCell ?_ (by first | (simp; done) | (simp; omega) | omega) | refine below_alloc _ ?_ | refine below_drewN ?_ _ | refine below_after (by assumption) ?_ | assumption))⟩

set_option maxRecDepth 100000 in
set_option maxHeartbeats 800000 in
/-- laws.eqWriteS -/
theorem eqWriteS_any (v1 v2 : Value) (l : List WriteD) (w : World) (h1 : Rd Cod.write w v1 l) (h2 : Rd Cod.write w v2 l) (hl : l.length ≤ 1048576) :
    Calls Tryz.prog 22 #[v1, v2] w fun e w' => e = .returned (.bool true) ∧ Below w.heap.size w w' := by
  obtain ⟨p1, c1, rfl, _, _, r1⟩ := h1.form
  obtain ⟨p2, c2, rfl, _, _, r2⟩ := h2.form
  have R1 := Lib.hid r1
  have R2 := Lib.hid r2
  have Hl := Lib.hid hl
  clear r1 r2 h1 h2
  obtain ⟨n, hn⟩ : ∃ n : Nat, l.length = n := ⟨_, rfl⟩
  have Hn := Lib.hid hn
  have hnb : (n : Int) ≤ 1048576 := by omega
  rw [hn]
  clear hn hl
  go_enter Tryz.func22, Tryz.ntmps22
  go_wp2
  go_loopw [5] (fun i wr => ∃ k : Nat, i = .int .i64 (k : Int) ∧ k ≤ n ∧ Below w.heap.size w wr) (fun i _ => n - (intOf i).toNat)
  case atStart => exact ⟨0, rfl, Nat.zero_le _, Below.refl _ _⟩
  case round =>
    obtain ⟨k, rfl, hk, hb⟩ := hrel
    have hbs := hb.size
    by_cases hlt : k < n
    · have hlt2 : (k : Int) < (n : Int) := by omega
      have hkl : k < l.length := by have := Hn.out; omega
      obtain ⟨g1, o1, rfl, hg1, hc1⟩ := R1.out (by have := Hn.out; omega)
      obtain ⟨g2, o2, rfl, hg2, hc2⟩ := R2.out (by have := Hn.out; omega)
      have at1 := (hc1 k hkl).below hg1 hb
      have at2 := (hc2 k hkl).below hg2 hb
      obtain ⟨x, es⟩ : ∃ x, l[k] = x := ⟨_, rfl⟩
      rw [es] at at1 at2
      clear hc1 hc2 es hkl
      obtain ⟨ud0, ud1, ud2, zKey, zVal⟩ := at_write at1
      obtain ⟨vd0, vd1, vd2, _, _⟩ := at_write at2
      rw [show o1 + k * Cod.write.size = o1 + k * 3 from rfl, show o2 + k * Cod.write.size = o2 + k * 3 from rfl] at *
      clear at1 at2
      have hg1' : g1 < wr.heap.size := by omega
      have hg2' : g2 < wr.heap.size := by omega
      have Hd := Lib.hid (eqWrite_d x)
      go_wp2_with fail
      have hx2 := fun (u : World) (b o : Nat) (h : b < wr.heap.size) => ext_cell wr u b o h
      refine wp_region_ext (by kernel_rfl) (by kernel_rfl) wr.heap.size ?_
      repeat (any_goals (go_big_quiet_step ((go_at_call 42; exact calls_ext (by first | (simp; done) | omega | (simp; omega)) (Hd.out _)))))
      refine wpQuiet_nil ?_
      intro w2 hb2
      clear hx2
      go_wp2
      go_roundw
      case rel => exact ⟨k + 1, by go_num, by omega, below_after hb2 hb⟩
      case measure => simp [intOf]; omega
    · have hlt2 : (n : Int) ≤ (k : Int) := by omega
      go_wp2
      go_ret
      exact ⟨rfl, hb⟩

end Go.Proofs.YtpiheobpobclgaaGreatDoor


/- laws.eqRec, laws.eqRecS of equal data. Printed by mkdata.py. -/
namespace Go.Proofs.YtpiheobpobclgaaGreatDoor
open Go.RowKit

set_option maxRecDepth 100000 in
set_option maxHeartbeats 1600000 in
/-- laws.eqRec -/
theorem eqRec_d (x : RecD) (lReads : x.Reads.length ≤ 1048576) (lWrites : x.Writes.length ≤ 1048576) (w : World) (uReads : Value) (ruReads : Rd (Cod.str) w uReads x.Reads) (uWrites : Value) (ruWrites : Rd (Cod.write) w uWrites x.Writes) (vReads : Value) (rvReads : Rd (Cod.str) w vReads x.Reads) (vWrites : Value) (rvWrites : Rd (Cod.write) w vWrites x.Writes) :
    Calls Tryz.prog 6 #[.agg #[.int .i64 x.Kind, .int .i64 x.Txn, .int .i64 x.Time, .int .i64 x.Lead, uReads, uWrites, .bool x.Yes], .agg #[.int .i64 x.Kind, .int .i64 x.Txn, .int .i64 x.Time, .int .i64 x.Lead, vReads, vWrites, .bool x.Yes]] w fun e w' => e = .returned (.bool true) ∧ Below w.heap.size w w' := by
  obtain ⟨xKind, xTxn, xTime, xLead, xReads, xWrites, xYes⟩ := x
  simp only at *
  have HReads := Lib.hid (fun (w : World) (r1 : Rd (Cod.str) w uReads xReads) (r2 : Rd (Cod.str) w vReads xReads) => eqStringSR_any uReads vReads xReads w r1 r2 lReads)
  have HWrites := Lib.hid (fun (w : World) (r1 : Rd (Cod.write) w uWrites xWrites) (r2 : Rd (Cod.write) w vWrites xWrites) => eqWriteS_any uWrites vWrites xWrites w r1 r2 lWrites)
  go_enter Tryz.func6, Tryz.ntmps6
  go_wp2_with fail
  refine (HReads.out _ (ruReads.below (by (repeat (first | exact Below.refl _ _ | exact below_new _ _ | refine below_setCell ?_ (by first | (simp; done) | (simp; omega) | omega) | refine below_alloc _ ?_ | refine below_drewN ?_ _ | refine below_after (by assumption) ?_ | assumption)))) (rvReads.below (by (repeat (first | exact Below.refl _ _ | exact below_new _ _ | refine below_setCell ?_ (by first | (simp; done) | (simp; omega) | omega) | refine below_alloc _ ?_ | refine below_drewN ?_ _ | refine below_after (by assumption) ?_ | assumption))))).mono ?_
  rintro e w1 ⟨rfl, k1⟩
  have b1 : Below w.heap.size w w1 := below_after k1 (by (repeat (first | exact Below.refl _ _ | exact below_new _ _ | refine below_setCell ?_ (by first | (simp; done) | (simp; omega) | omega) | refine below_alloc _ ?_ | refine below_drewN ?_ _ | refine below_after (by assumption) ?_ | assumption)))
  have hx1 := bcell k1
  have q10 : w.heap.size < w1.heap.size := by have := k1.size; first | (simp at this; omega) | omega
  have q11 : w.heap.size + 1 < w1.heap.size := by have := k1.size; first | (simp at this; omega) | omega
  go_wp2_with fail
  refine (HWrites.out _ (ruWrites.below (below_link b1 (Below.refl _ _) (by (repeat (first | exact Below.refl _ _ | refine Below.setCell ?_ (by have := b1.size; first | (simp at this ⊢; omega) | (simp; omega) | omega | (simp; done)) _ | refine Below.alloc ?_ (by have := b1.size; first | (simp at this ⊢; omega) | (simp; omega) | omega) _ | refine below_drewN ?_ _))))) (rvWrites.below (below_link b1 (Below.refl _ _) (by (repeat (first | exact Below.refl _ _ | refine Below.setCell ?_ (by have := b1.size; first | (simp at this ⊢; omega) | (simp; omega) | omega | (simp; done)) _ | refine Below.alloc ?_ (by have := b1.size; first | (simp at this ⊢; omega) | (simp; omega) | omega) _ | refine below_drewN ?_ _)))))).mono ?_
  rintro e w2 ⟨rfl, k2⟩
  have b2 : Below w.heap.size w w2 := below_link b1 k2 (by (repeat (first | exact Below.refl _ _ | refine Below.setCell ?_ (by have := b1.size; first | (simp at this ⊢; omega) | (simp; omega) | omega | (simp; done)) _ | refine Below.alloc ?_ (by have := b1.size; first | (simp at this ⊢; omega) | (simp; omega) | omega) _ | refine below_drewN ?_ _)))
  have hx2 := bcell k2
  have q20 : w.heap.size < w2.heap.size := by have := k2.size; first | (simp at this; omega) | omega
  have q21 : w.heap.size + 1 < w2.heap.size := by have := k2.size; first | (simp at this; omega) | omega
  go_wp2
  go_ret
  exact ⟨rfl, by (repeat (first | exact Below.refl _ _ | exact below_new _ _ | refine below_setCell ?_ (by first | (simp; done) | (simp; omega) | omega) | refine below_alloc _ ?_ | refine below_drewN ?_ _ | refine below_after (by assumption) ?_ | assumption))⟩

end Go.Proofs.YtpiheobpobclgaaGreatDoor


/- laws.eqEntry, laws.eqEntryS of equal data. Printed by mkdata2.py. -/
namespace Go.Proofs.YtpiheobpobclgaaGreatDoor
open Go.RowKit

end Go.Proofs.YtpiheobpobclgaaGreatDoor


/- laws.eqReplica, laws.eqReplicaS of equal data. Printed by mkdata2.py. -/
namespace Go.Proofs.YtpiheobpobclgaaGreatDoor
open Go.RowKit

end Go.Proofs.YtpiheobpobclgaaGreatDoor


/- laws.eqGroup, laws.eqGroupS of equal data. Printed by mkdata2.py. -/
namespace Go.Proofs.YtpiheobpobclgaaGreatDoor
open Go.RowKit

end Go.Proofs.YtpiheobpobclgaaGreatDoor

