/- Plain lemmas and contracts that all proofs of this seat lean on: bundle Eqs. -/
import Derived.Test.YtogdbjalgledpaaData
import Derived.Test.YtogdbjalgledpaaRStr
import Derived.Test.YtogdbjalgledpaaData2
/- laws.eqWrite, laws.eqWriteS of equal data. Printed by mkdata.py. -/
namespace Go.Proofs.Ytogdbjalgledpaa
open Go.RowKit

set_option maxRecDepth 100000 in
set_option maxHeartbeats 1600000 in
/-- laws.eqWrite -/
theorem eqWrite_d (x : WriteD) (w : World) :
    Calls Try.prog 103 #[.agg #[.string x.Key, .string x.Val, .bool x.Gone], .agg #[.string x.Key, .string x.Val, .bool x.Gone]] w fun e w' => e = .returned (.bool true) ∧ Below w.heap.size w w' := by
  obtain ⟨xKey, xVal, xGone⟩ := x
  simp only at *
  go_enter Try.func103, Try.ntmps103
  go_wp2
  go_ret
  exact ⟨rfl, by (repeat (first | exact Below.refl _ _ | exact below_new _ _ | refine below_setCell ?_ (by first | (simp; done) | (simp; omega) | omega) | refine below_alloc _ ?_ | refine below_drewN ?_ _ | refine below_after (by assumption) ?_ | assumption))⟩

set_option maxRecDepth 100000 in
set_option maxHeartbeats 800000 in
/-- laws.eqWriteS -/
theorem eqWriteS_any (v1 v2 : Value) (l : List WriteD) (w : World) (h1 : Rd Cod.write w v1 l) (h2 : Rd Cod.write w v2 l) (hl : l.length ≤ 1048576) :
    Calls Try.prog 64 #[v1, v2] w fun e w' => e = .returned (.bool true) ∧ Below w.heap.size w w' := by
  obtain ⟨p1, c1, rfl, _, _, r1⟩ := h1.form
  obtain ⟨p2, c2, rfl, _, _, r2⟩ := h2.form
  have R1 := Lib.hid r1
  have R2 := Lib.hid r2
  have Hl := Lib.hid hl
  clear r1 r2 h1 h2
  obtain ⟨n, hn⟩ : ∃ n : Nat, l.length = n := ⟨_, rfl⟩
  have Hn := Lib.hid hn
  have hnb : (n : Int) ≤ 1048576 := by omega
  rw [hn]
  clear hn hl
  go_enter Try.func64, Try.ntmps64
  go_wp2
  go_loopw [5] (fun i wr => ∃ k : Nat, i = .int .i64 (k : Int) ∧ k ≤ n ∧ Below w.heap.size w wr) (fun i _ => n - (intOf i).toNat)
  case atStart => exact ⟨0, rfl, Nat.zero_le _, Below.refl _ _⟩
  case round =>
    obtain ⟨k, rfl, hk, hb⟩ := hrel
    have hbs := hb.size
    by_cases hlt : k < n
    · have hlt2 : (k : Int) < (n : Int) := by omega
      have hkl : k < l.length := by have := Hn.out; omega
      obtain ⟨g1, o1, rfl, hg1, hc1⟩ := R1.out (by have := Hn.out; omega)
      obtain ⟨g2, o2, rfl, hg2, hc2⟩ := R2.out (by have := Hn.out; omega)
      have at1 := (hc1 k hkl).below hg1 hb
      have at2 := (hc2 k hkl).below hg2 hb
      obtain ⟨x, es⟩ : ∃ x, l[k] = x := ⟨_, rfl⟩
      rw [es] at at1 at2
      clear hc1 hc2 es hkl
      obtain ⟨ud0, ud1, ud2, zKey, zVal⟩ := at_write at1
      obtain ⟨vd0, vd1, vd2, _, _⟩ := at_write at2
      rw [show o1 + k * Cod.write.size = o1 + k * 3 from rfl, show o2 + k * Cod.write.size = o2 + k * 3 from rfl] at *
      clear at1 at2
      have hg1' : g1 < wr.heap.size := by omega
      have hg2' : g2 < wr.heap.size := by omega
      have Hd := Lib.hid (eqWrite_d x)
      go_wp2_with fail
      have hx2 := fun (u : World) (b o : Nat) (h : b < wr.heap.size) => ext_cell wr u b o h
      refine wp_region_ext (by kernel_rfl) (by kernel_rfl) wr.heap.size ?_
      repeat (any_goals (go_big_quiet_step ((go_at_call 103; exact calls_ext (by first | (simp; done) | omega | (simp; omega)) (Hd.out _)))))
      refine wpQuiet_nil ?_
      intro w2 hb2
      clear hx2
      go_wp2
      go_roundw
      case rel => exact ⟨k + 1, by go_num, by omega, below_after hb2 hb⟩
      case measure => simp [intOf]; omega
    · have hlt2 : (n : Int) ≤ (k : Int) := by omega
      go_wp2
      go_ret
      exact ⟨rfl, hb⟩

end Go.Proofs.Ytogdbjalgledpaa


/- laws.eqRec, laws.eqRecS of equal data. Printed by mkdata.py. -/
namespace Go.Proofs.Ytogdbjalgledpaa
open Go.RowKit

set_option maxRecDepth 100000 in
set_option maxHeartbeats 1600000 in
/-- laws.eqRec -/
theorem eqRec_d (x : RecD) (lReads : x.Reads.length ≤ 1048576) (lWrites : x.Writes.length ≤ 1048576) (w : World) (uReads : Value) (ruReads : Rd (Cod.str) w uReads x.Reads) (uWrites : Value) (ruWrites : Rd (Cod.write) w uWrites x.Writes) (vReads : Value) (rvReads : Rd (Cod.str) w vReads x.Reads) (vWrites : Value) (rvWrites : Rd (Cod.write) w vWrites x.Writes) :
    Calls Try.prog 23 #[.agg #[.int .i64 x.Kind, .int .i64 x.Txn, .int .i64 x.Time, .int .i64 x.Lead, uReads, uWrites, .bool x.Yes], .agg #[.int .i64 x.Kind, .int .i64 x.Txn, .int .i64 x.Time, .int .i64 x.Lead, vReads, vWrites, .bool x.Yes]] w fun e w' => e = .returned (.bool true) ∧ Below w.heap.size w w' := by
  obtain ⟨xKind, xTxn, xTime, xLead, xReads, xWrites, xYes⟩ := x
  simp only at *
  have HReads := Lib.hid (fun (w : World) (r1 : Rd (Cod.str) w uReads xReads) (r2 : Rd (Cod.str) w vReads xReads) => eqStringSR_any uReads vReads xReads w r1 r2 lReads)
  have HWrites := Lib.hid (fun (w : World) (r1 : Rd (Cod.write) w uWrites xWrites) (r2 : Rd (Cod.write) w vWrites xWrites) => eqWriteS_any uWrites vWrites xWrites w r1 r2 lWrites)
  go_enter Try.func23, Try.ntmps23
  go_wp2_with fail
  refine (HReads.out _ (ruReads.below (by (repeat (first | exact Below.refl _ _ | exact below_new _ _ | refine below_setCell ?_ (by first | (simp; done) | (simp; omega) | omega) | refine below_alloc _ ?_ | refine below_drewN ?_ _ | refine below_after (by assumption) ?_ | assumption)))) (rvReads.below (by (repeat (first | exact Below.refl _ _ | exact below_new _ _ | refine below_setCell ?_ (by first | (simp; done) | (simp; omega) | omega) | refine below_alloc _ ?_ | refine below_drewN ?_ _ | refine below_after (by assumption) ?_ | assumption))))).mono ?_
  rintro e w1 ⟨rfl, k1⟩
  have b1 : Below w.heap.size w w1 := below_after k1 (by (repeat (first | exact Below.refl _ _ | exact below_new _ _ | refine below_setCell ?_ (by first | (simp; done) | (simp; omega) | omega) | refine below_alloc _ ?_ | refine below_drewN ?_ _ | refine below_after (by assumption) ?_ | assumption)))
  have hx1 := bcell k1
  have q10 : w.heap.size < w1.heap.size := by have := k1.size; first | (simp at this; omega) | omega
  have q11 : w.heap.size + 1 < w1.heap.size := by have := k1.size; first | (simp at this; omega) | omega
  go_wp2_with fail
  refine (HWrites.out _ (ruWrites.below (below_link b1 (Below.refl _ _) (by (repeat (first | exact Below.refl _ _ | refine Below.setCell ?_ (by have := b1.size; first | (simp at this ⊢; omega) | (simp; omega) | omega | (simp; done)) _ | refine Below.alloc ?_ (by have := b1.size; first | (simp at this ⊢; omega) | (simp; omega) | omega) _ | refine below_drewN ?_ _))))) (rvWrites.below (below_link b1 (Below.refl _ _) (by (repeat (first | exact Below.refl _ _ | refine Below.setCell ?_ (by have := b1.size; first | (simp at this ⊢; omega) | (simp; omega) | omega | (simp; done)) _ | refine Below.alloc ?_ (by have := b1.size; first | (simp at this ⊢; omega) | (simp; omega) | omega) _ | refine below_drewN ?_ _)))))).mono ?_
  rintro e w2 ⟨rfl, k2⟩
  have b2 : Below w.heap.size w w2 := below_link b1 k2 (by (repeat (first | exact Below.refl _ _ | refine Below.setCell ?_ (by have := b1.size; first | (simp at this ⊢; omega) | (simp; omega) | omega | (simp; done)) _ | refine Below.alloc ?_ (by have := b1.size; first | (simp at this ⊢; omega) | (simp; omega) | omega) _ | refine below_drewN ?_ _)))
  have hx2 := bcell k2
  have q20 : w.heap.size < w2.heap.size := by have := k2.size; first | (simp at this; omega) | omega
  have q21 : w.heap.size + 1 < w2.heap.size := by have := k2.size; first | (simp at this; omega) | omega
  go_wp2
  go_ret
  exact ⟨rfl, by (repeat (first | exact Below.refl _ _ | exact below_new _ _ | refine below_setCell ?_ (by first | (simp; done) | (simp; omega) | omega) | refine below_alloc _ ?_ | refine below_drewN ?_ _ | refine below_after (by assumption) ?_ | assumption))⟩

end Go.Proofs.Ytogdbjalgledpaa


/- laws.eqEntry, laws.eqEntryS of equal data. Printed by mkdata2.py. -/
namespace Go.Proofs.Ytogdbjalgledpaa
open Go.RowKit

set_option maxRecDepth 100000 in
set_option maxHeartbeats 1600000 in
/-- laws.eqEntry -/
theorem eqEntry_d (x : EntryD) (lReads : x.Rec.Reads.length ≤ 1048576) (lWrites : x.Rec.Writes.length ≤ 1048576) (w : World) (uRecReads : Value) (ruRecReads : Rd Cod.str w uRecReads x.Rec.Reads) (uRecWrites : Value) (ruRecWrites : Rd Cod.write w uRecWrites x.Rec.Writes) (vRecReads : Value) (rvRecReads : Rd Cod.str w vRecReads x.Rec.Reads) (vRecWrites : Value) (rvRecWrites : Rd Cod.write w vRecWrites x.Rec.Writes) :
    Calls Try.prog 135 #[.agg #[.int .i64 x.Term, .int .i64 x.Rec.Kind, .int .i64 x.Rec.Txn, .int .i64 x.Rec.Time, .int .i64 x.Rec.Lead, uRecReads, uRecWrites, .bool x.Rec.Yes], .agg #[.int .i64 x.Term, .int .i64 x.Rec.Kind, .int .i64 x.Rec.Txn, .int .i64 x.Rec.Time, .int .i64 x.Rec.Lead, vRecReads, vRecWrites, .bool x.Rec.Yes]] w fun e w' => e = .returned (.bool true) ∧ Below w.heap.size w w' := by
  have Hc := Lib.hid (fun (W : World) (k : Below w.heap.size w W) => eqRec_d x.Rec lReads lWrites W uRecReads (ruRecReads.below k) uRecWrites (ruRecWrites.below k) vRecReads (rvRecReads.below k) vRecWrites (rvRecWrites.below k))
  obtain ⟨term, ⟨a, b, c, d, rs, ws, y⟩⟩ := x
  dsimp only at *
  obtain ⟨pr, cr, rfl, -⟩ := ruRecReads.form
  obtain ⟨pw, cw, rfl, -⟩ := ruRecWrites.form
  obtain ⟨pr2, cr2, rfl, -⟩ := rvRecReads.form
  obtain ⟨pw2, cw2, rfl, -⟩ := rvRecWrites.form
  clear ruRecReads ruRecWrites rvRecReads rvRecWrites
  go_enter Try.func135, Try.ntmps135
  go_wp2_with fail
  refine (Hc.out _ (by (repeat (first | exact Below.refl _ _ | exact below_new _ _ | refine below_setCell ?_ (by first | (simp; done) | (simp; omega) | omega) | refine below_alloc _ ?_ | refine below_drewN ?_ _ | refine below_after (by assumption) ?_ | assumption)))).mono ?_
  rintro e w1 ⟨rfl, k1⟩
  go_wp2
  go_ret
  exact ⟨rfl, below_after k1 (by (repeat (first | exact Below.refl _ _ | exact below_new _ _ | refine below_setCell ?_ (by first | (simp; done) | (simp; omega) | omega) | refine below_alloc _ ?_ | refine below_drewN ?_ _ | refine below_after (by assumption) ?_ | assumption)))⟩

set_option maxRecDepth 100000 in
set_option maxHeartbeats 800000 in
/-- laws.eqEntryS -/
theorem eqEntryS_any (v1 v2 : Value) (l : List EntryD) (w : World) (h1 : Rd Cod.entry w v1 l) (h2 : Rd Cod.entry w v2 l) (hl : costEntryS l ≤ 1048576) :
    Calls Try.prog 118 #[v1, v2] w fun e w' => e = .returned (.bool true) ∧ Below w.heap.size w w' := by
  obtain ⟨p1, c1, rfl, _, _, r1⟩ := h1.form
  obtain ⟨p2, c2, rfl, _, _, r2⟩ := h2.form
  have R1 := Lib.hid r1
  have R2 := Lib.hid r2
  have Hl := Lib.hid hl
  clear r1 r2 h1 h2
  obtain ⟨n, hn⟩ : ∃ n : Nat, l.length = n := ⟨_, rfl⟩
  have Hn := Lib.hid hn
  have hnb : (n : Int) ≤ 1048576 := by unfold costEntryS at hl; omega
  rw [hn]
  clear hn hl
  go_enter Try.func118, Try.ntmps118
  go_wp2
  go_loopw [5] (fun i wr => ∃ k : Nat, i = .int .i64 (k : Int) ∧ k ≤ n ∧ Below w.heap.size w wr) (fun i _ => n - (intOf i).toNat)
  case atStart => exact ⟨0, rfl, Nat.zero_le _, Below.refl _ _⟩
  case round =>
    obtain ⟨k, rfl, hk, hb⟩ := hrel
    have hbs := hb.size
    by_cases hlt : k < n
    · have hlt2 : (k : Int) < (n : Int) := by omega
      have hkl : k < l.length := by have := Hn.out; omega
      obtain ⟨g1, o1, rfl, hg1, hc1⟩ := R1.out (by have := Hn.out; omega)
      obtain ⟨g2, o2, rfl, hg2, hc2⟩ := R2.out (by have := Hn.out; omega)
      have at1 := (hc1 k hkl).below hg1 hb
      have at2 := (hc2 k hkl).below hg2 hb
      have Hx : Hid (l[k].Rec.Reads.length ≤ 1048576 ∧ l[k].Rec.Writes.length ≤ 1048576) := Lib.hid (by have h1 := Hl.out; have h2 := sumC_get costEntry l k hkl; unfold costEntryS at h1; have hRecReads : l[k].Rec.Reads.length ≤ costEntry l[k] := (by unfold costEntry costStringS; omega); have hRecWrites : l[k].Rec.Writes.length ≤ costEntry l[k] := (by unfold costEntry costWriteS; omega); omega)
      obtain ⟨x, es⟩ : ∃ x, l[k] = x := ⟨_, rfl⟩
      rw [es] at at1 at2 Hx
      clear hc1 hc2 es hkl
      obtain ⟨ud0, ud1, ud2, ud3, ud4, ⟨uRecReads, ud5, ruRecReads⟩, ⟨uRecWrites, ud6, ruRecWrites⟩, ud7, zTerm, zRecKind, zRecTxn, zRecTime, zRecLead⟩ := at_entry at1
      obtain ⟨vd0, vd1, vd2, vd3, vd4, ⟨vRecReads, vd5, rvRecReads⟩, ⟨vRecWrites, vd6, rvRecWrites⟩, vd7, _, _, _, _, _⟩ := at_entry at2
      rw [show o1 + k * Cod.entry.size = o1 + k * 8 from rfl, show o2 + k * Cod.entry.size = o2 + k * 8 from rfl] at *
      clear at1 at2
      have hg1' : g1 < wr.heap.size := by omega
      have hg2' : g2 < wr.heap.size := by omega
      have Hd := Lib.hid (fun (W : World) (uRecReads : Value) (r1RecReads : Rd (Cod.str) W uRecReads x.Rec.Reads) (uRecWrites : Value) (r1RecWrites : Rd (Cod.write) W uRecWrites x.Rec.Writes) (vRecReads : Value) (r2RecReads : Rd (Cod.str) W vRecReads x.Rec.Reads) (vRecWrites : Value) (r2RecWrites : Rd (Cod.write) W vRecWrites x.Rec.Writes) => eqEntry_d x Hx.out.1 Hx.out.2 W uRecReads r1RecReads uRecWrites r1RecWrites vRecReads r2RecReads vRecWrites r2RecWrites)
      go_wp2_with fail
      have hx2 := fun (u : World) (b o : Nat) (h : b < wr.heap.size) => ext_cell wr u b o h
      refine wp_region_ext (by kernel_rfl) (by kernel_rfl) wr.heap.size ?_
      repeat (any_goals (go_big_quiet_step ((go_at_call 135; exact calls_ext (by first | (simp; done) | omega | (simp; omega)) (Hd.out _ _ (ruRecReads.below (ext_below _ _ _)) _ (ruRecWrites.below (ext_below _ _ _)) _ (rvRecReads.below (ext_below _ _ _)) _ (rvRecWrites.below (ext_below _ _ _)))))))
      refine wpQuiet_nil ?_
      intro w2 hb2
      clear hx2
      go_wp2
      go_roundw
      case rel => exact ⟨k + 1, by go_num, by omega, below_after hb2 hb⟩
      case measure => simp [intOf]; omega
    · have hlt2 : (n : Int) ≤ (k : Int) := by omega
      go_wp2
      go_ret
      exact ⟨rfl, hb⟩

end Go.Proofs.Ytogdbjalgledpaa


/- laws.eqReplica, laws.eqReplicaS of equal data. Printed by mkdata2.py. -/
namespace Go.Proofs.Ytogdbjalgledpaa
open Go.RowKit

set_option maxRecDepth 100000 in
set_option maxHeartbeats 1600000 in
/-- laws.eqReplica -/
theorem eqReplica_d (x : ReplicaD) (lLog : costEntryS x.Log ≤ 1048576) (w : World) (uLog : Value) (ruLog : Rd (Cod.entry) w uLog x.Log) (vLog : Value) (rvLog : Rd (Cod.entry) w vLog x.Log) :
    Calls Try.prog 90 #[.agg #[.bool x.Up, uLog, .int .i64 x.Sure], .agg #[.bool x.Up, vLog, .int .i64 x.Sure]] w fun e w' => e = .returned (.bool true) ∧ Below w.heap.size w w' := by
  obtain ⟨xUp, xLog, xSure⟩ := x
  simp only at *
  have HLog := Lib.hid (fun (w : World) (r1 : Rd (Cod.entry) w uLog xLog) (r2 : Rd (Cod.entry) w vLog xLog) => eqEntryS_any uLog vLog xLog w r1 r2 lLog)
  go_enter Try.func90, Try.ntmps90
  go_wp2_with fail
  refine (HLog.out _ (ruLog.below (by (repeat (first | exact Below.refl _ _ | exact below_new _ _ | refine below_setCell ?_ (by first | (simp; done) | (simp; omega) | omega) | refine below_alloc _ ?_ | refine below_drewN ?_ _ | refine below_after (by assumption) ?_ | assumption)))) (rvLog.below (by (repeat (first | exact Below.refl _ _ | exact below_new _ _ | refine below_setCell ?_ (by first | (simp; done) | (simp; omega) | omega) | refine below_alloc _ ?_ | refine below_drewN ?_ _ | refine below_after (by assumption) ?_ | assumption))))).mono ?_
  rintro e w1 ⟨rfl, k1⟩
  have b1 : Below w.heap.size w w1 := below_after k1 (by (repeat (first | exact Below.refl _ _ | exact below_new _ _ | refine below_setCell ?_ (by first | (simp; done) | (simp; omega) | omega) | refine below_alloc _ ?_ | refine below_drewN ?_ _ | refine below_after (by assumption) ?_ | assumption)))
  have hx1 := bcell k1
  have q10 : w.heap.size < w1.heap.size := by have := k1.size; first | (simp at this; omega) | omega
  have q11 : w.heap.size + 1 < w1.heap.size := by have := k1.size; first | (simp at this; omega) | omega
  go_wp2
  go_ret
  exact ⟨rfl, by (repeat (first | exact Below.refl _ _ | exact below_new _ _ | refine below_setCell ?_ (by first | (simp; done) | (simp; omega) | omega) | refine below_alloc _ ?_ | refine below_drewN ?_ _ | refine below_after (by assumption) ?_ | assumption))⟩

set_option maxRecDepth 100000 in
set_option maxHeartbeats 800000 in
/-- laws.eqReplicaS -/
theorem eqReplicaS_any (v1 v2 : Value) (l : List ReplicaD) (w : World) (h1 : Rd Cod.replica w v1 l) (h2 : Rd Cod.replica w v2 l) (hl : costReplicaS l ≤ 1048576) :
    Calls Try.prog 48 #[v1, v2] w fun e w' => e = .returned (.bool true) ∧ Below w.heap.size w w' := by
  obtain ⟨p1, c1, rfl, _, _, r1⟩ := h1.form
  obtain ⟨p2, c2, rfl, _, _, r2⟩ := h2.form
  have R1 := Lib.hid r1
  have R2 := Lib.hid r2
  have Hl := Lib.hid hl
  clear r1 r2 h1 h2
  obtain ⟨n, hn⟩ : ∃ n : Nat, l.length = n := ⟨_, rfl⟩
  have Hn := Lib.hid hn
  have hnb : (n : Int) ≤ 1048576 := by unfold costReplicaS at hl; omega
  rw [hn]
  clear hn hl
  go_enter Try.func48, Try.ntmps48
  go_wp2
  go_loopw [5] (fun i wr => ∃ k : Nat, i = .int .i64 (k : Int) ∧ k ≤ n ∧ Below w.heap.size w wr) (fun i _ => n - (intOf i).toNat)
  case atStart => exact ⟨0, rfl, Nat.zero_le _, Below.refl _ _⟩
  case round =>
    obtain ⟨k, rfl, hk, hb⟩ := hrel
    have hbs := hb.size
    by_cases hlt : k < n
    · have hlt2 : (k : Int) < (n : Int) := by omega
      have hkl : k < l.length := by have := Hn.out; omega
      obtain ⟨g1, o1, rfl, hg1, hc1⟩ := R1.out (by have := Hn.out; omega)
      obtain ⟨g2, o2, rfl, hg2, hc2⟩ := R2.out (by have := Hn.out; omega)
      have at1 := (hc1 k hkl).below hg1 hb
      have at2 := (hc2 k hkl).below hg2 hb
      have Hx : Hid (costEntryS l[k].Log ≤ 1048576) := Lib.hid (by have h1 := Hl.out; have h2 := sumC_get costReplica l k hkl; unfold costReplicaS at h1; have hLog : costEntryS l[k].Log ≤ costReplica l[k] := (by unfold costReplica; omega); omega)
      obtain ⟨x, es⟩ : ∃ x, l[k] = x := ⟨_, rfl⟩
      rw [es] at at1 at2 Hx
      clear hc1 hc2 es hkl
      obtain ⟨ud0, ⟨uLog, ud1, ruLog⟩, ud2, zSure⟩ := at_replica at1
      obtain ⟨vd0, ⟨vLog, vd1, rvLog⟩, vd2, _⟩ := at_replica at2
      rw [show o1 + k * Cod.replica.size = o1 + k * 3 from rfl, show o2 + k * Cod.replica.size = o2 + k * 3 from rfl] at *
      clear at1 at2
      have hg1' : g1 < wr.heap.size := by omega
      have hg2' : g2 < wr.heap.size := by omega
      have Hd := Lib.hid (fun (W : World) (uLog : Value) (r1Log : Rd (Cod.entry) W uLog x.Log) (vLog : Value) (r2Log : Rd (Cod.entry) W vLog x.Log) => eqReplica_d x Hx.out W uLog r1Log vLog r2Log)
      go_wp2_with fail
      have hx2 := fun (u : World) (b o : Nat) (h : b < wr.heap.size) => ext_cell wr u b o h
      refine wp_region_ext (by kernel_rfl) (by kernel_rfl) wr.heap.size ?_
      repeat (any_goals (go_big_quiet_step ((go_at_call 90; exact calls_ext (by first | (simp; done) | omega | (simp; omega)) (Hd.out _ _ (ruLog.below (ext_below _ _ _)) _ (rvLog.below (ext_below _ _ _)))))))
      refine wpQuiet_nil ?_
      intro w2 hb2
      clear hx2
      go_wp2
      go_roundw
      case rel => exact ⟨k + 1, by go_num, by omega, below_after hb2 hb⟩
      case measure => simp [intOf]; omega
    · have hlt2 : (n : Int) ≤ (k : Int) := by omega
      go_wp2
      go_ret
      exact ⟨rfl, hb⟩

end Go.Proofs.Ytogdbjalgledpaa


/- laws.eqGroup, laws.eqGroupS of equal data. Printed by mkdata2.py. -/
namespace Go.Proofs.Ytogdbjalgledpaa
open Go.RowKit

set_option maxRecDepth 100000 in
set_option maxHeartbeats 1600000 in
/-- laws.eqGroup -/
theorem eqGroup_d (x : GroupD) (lReps : costReplicaS x.Reps ≤ 1048576) (w : World) (uReps : Value) (ruReps : Rd (Cod.replica) w uReps x.Reps) (vReps : Value) (rvReps : Rd (Cod.replica) w vReps x.Reps) :
    Calls Try.prog 14 #[.agg #[uReps, .int .i64 x.Term, .int .i64 x.Lead], .agg #[vReps, .int .i64 x.Term, .int .i64 x.Lead]] w fun e w' => e = .returned (.bool true) ∧ Below w.heap.size w w' := by
  obtain ⟨xReps, xTerm, xLead⟩ := x
  simp only at *
  have HReps := Lib.hid (fun (w : World) (r1 : Rd (Cod.replica) w uReps xReps) (r2 : Rd (Cod.replica) w vReps xReps) => eqReplicaS_any uReps vReps xReps w r1 r2 lReps)
  go_enter Try.func14, Try.ntmps14
  go_wp2_with fail
  refine (HReps.out _ (ruReps.below (by (repeat (first | exact Below.refl _ _ | exact below_new _ _ | refine below_setCell ?_ (by first | (simp; done) | (simp; omega) | omega) | refine below_alloc _ ?_ | refine below_drewN ?_ _ | refine below_after (by assumption) ?_ | assumption)))) (rvReps.below (by (repeat (first | exact Below.refl _ _ | exact below_new _ _ | refine below_setCell ?_ (by first | (simp; done) | (simp; omega) | omega) | refine below_alloc _ ?_ | refine below_drewN ?_ _ | refine below_after (by assumption) ?_ | assumption))))).mono ?_
  rintro e w1 ⟨rfl, k1⟩
  have b1 : Below w.heap.size w w1 := below_after k1 (by (repeat (first | exact Below.refl _ _ | exact below_new _ _ | refine below_setCell ?_ (by first | (simp; done) | (simp; omega) | omega) | refine below_alloc _ ?_ | refine below_drewN ?_ _ | refine below_after (by assumption) ?_ | assumption)))
  have hx1 := bcell k1
  have q10 : w.heap.size < w1.heap.size := by have := k1.size; first | (simp at this; omega) | omega
  have q11 : w.heap.size + 1 < w1.heap.size := by have := k1.size; first | (simp at this; omega) | omega
  go_wp2
  go_ret
  exact ⟨rfl, by (repeat (first | exact Below.refl _ _ | exact below_new _ _ | refine below_setCell ?_ (by first | (simp; done) | (simp; omega) | omega) | refine below_alloc _ ?_ | refine below_drewN ?_ _ | refine below_after (by assumption) ?_ | assumption))⟩

end Go.Proofs.Ytogdbjalgledpaa

