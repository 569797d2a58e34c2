/- Plain lemmas and contracts that all proofs of this seat lean on: bundle Tos. -/
import Derived.Test.YtpiheobpobclgaaDoorRowd
import Derived.Test.YtpiheobpobclgaaDoorGoodr
/- laws.toWrite, laws.toWriteS. Printed by mkdata.py. -/
namespace Go.Proofs.YtpiheobpobclgaaDoor
open Go.RowKit

/-- What toWrite gives. -/
def ToWrite (x : WriteD) (base : Nat) (e : Ending) (w' : World) : Prop :=
  ∃ f, e = .returned (.agg #[.string x.Key, .string x.Val, .bool x.Gone]) ∧ Cod.write.rd w' (lst [.string x.Key, .string x.Val, .bool x.Gone]) x f ∧ Mine w' base f

set_option maxRecDepth 100000 in
set_option maxHeartbeats 1600000 in
/-- laws.toWrite -/
theorem toWrite_d (x : WriteD) (bKey : x.Key.size ≤ maxLen) (bVal : x.Val.size ≤ maxLen) (w : World) :
    Calls Tryd.prog 68 #[.agg #[.string x.Key, .string x.Val, .bool x.Gone]] w fun e w' => ToWrite x w.heap.size e w' ∧ Below w.heap.size w w' := by
  unfold ToWrite
  have Hm := Lib.hid (fun W : World => mk_write (w := W) (g := lst [.string x.Key, .string x.Val, .bool x.Gone]) (x := x) rfl bKey rfl bVal rfl)
  obtain ⟨xKey, xVal, xGone⟩ := x
  simp only at *
  go_enter Tryd.func68, Tryd.ntmps68
  go_wp2
  refine bodyPost_ret (v := .agg #[.string xKey, .string xVal, .bool xGone]) (by simp [results, Tryd.results68, go_sem]) rfl ⟨⟨_, rfl, Hm.out _, Mine.nil _ _⟩, ?_⟩
  (repeat (first | exact Below.refl _ _ | exact below_new _ _ | refine below_setCell ?_ (by first | (simp; done) | (simp; omega) | omega) | refine below_alloc _ ?_ | refine below_drewN ?_ _ | refine below_after (by assumption) ?_ | assumption))

theorem Tryd_info_write : (Tryd.prog.info? 86).map (fun i => (i.zero, i.size, i.bytes)) = some (some (.agg #[.string ⟨#[]⟩, .string ⟨#[]⟩, .bool false]), 3, 40) := by kernel_rfl

set_option maxRecDepth 100000 in
set_option maxHeartbeats 800000 in
/-- laws.toWriteS -/
theorem toWriteS_any (v : Value) (l : List WriteD) (hl : costWriteS l ≤ 1048576) (w : World) (h : Rd Cod.write w v l) :
    Calls Tryd.prog 37 #[v] w fun e w' => ∃ v', e = .returned v' ∧ Own Cod.write w' w.heap.size v' l ∧ Below w.heap.size w w' := by
  obtain ⟨i0, hi, hz0, hz1, hz2⟩ := info_parts Tryd_info_write
  obtain ⟨p, c, rfl, hlc, hcm, r⟩ := h.form
  have R := Lib.hid r
  clear r h hlc hcm
  have Hc := Lib.hid hl
  obtain ⟨n, hn⟩ : ∃ n : Nat, l.length = n := ⟨_, rfl⟩
  have Hn := Lib.hid hn
  have hnb : (n : Int) ≤ 1048576 := by unfold costWriteS at hl; omega
  rw [hn]
  clear hn hl
  have hb16 : i0.bytes * n ≤ 281474976710656 := by rw [hz2]; omega
  go_enter Tryd.func37, Tryd.ntmps37
  go_wp2_with (refine wpList_make_full w rfl _ _ 39 (by rfl) w.heap.size 86 i0 (.agg #[.string ⟨#[]⟩, .string ⟨#[]⟩, .bool false]) 3 Tryd.underlying39 hi hz0 hz1 .i64 .i64 (n : Int) (n : Int) n (by rfl) (by rfl) rfl rfl hb16 (by unfold maxLen; omega) (Nat.le_refl _) ?_)
  intro w1 hown1 hg1
  have P1 := Lib.hid (part_start (c := Cod.write) (show w1.ownsRow w.heap.size 86 Cod.write.size (.slice (some ⟨w.heap.size, 0, none⟩) n n) n _ from hown1))
  have hb1 : Below w.heap.size w w1 := Below.grown (Below.refl _ _) hg1 (Nat.le_refl _) (by simp)
  clear hown1 hg1 hb16 hi hz0 hz1 hz2
  go_wp2
  go_loopw [4] (fun i wr => ∃ k : Nat, i = .int .i64 (k : Int) ∧ k ≤ n ∧ Hid (Part Cod.write wr w.heap.size 86 (.slice (some ⟨w.heap.size, 0, none⟩) n n) n (l.take k)) ∧ Below w.heap.size w wr) (fun i _ => n - (intOf i).toNat)
  case atStart => exact ⟨0, rfl, Nat.zero_le _, Lib.hid ⟨_, P1.out⟩, hb1⟩
  case round =>
    obtain ⟨k, rfl, hk, Hp, hb⟩ := hrel
    by_cases hlt : k < n
    · have hlt2 : (k : Int) < (n : Int) := by omega
      have hkl : k < l.length := by have := Hn.out; omega
      have hktl : (l.take k).length = k := by rw [List.length_take]; omega
      obtain ⟨g, o, rfl, hg, hc⟩ := R.out (by have := Hn.out; omega)
      have at0 := (hc k hkl).below hg hb
      have Ht := Lib.hid (List.take_succ_eq_append_getElem hkl)
      have hcst := sumC_get costWrite l k hkl
      obtain ⟨x, es⟩ : ∃ x, l[k] = x := ⟨_, rfl⟩
      rw [es] at at0 Ht hcst
      have Hl : Hid (costWrite x ≤ 1048576) := Lib.hid (by have := Hc.out; unfold costWriteS at this; omega)
      clear hc es hkl hcst
      obtain ⟨d0, d1, d2, zKey, zVal⟩ := at_write at0
      rw [show o + k * Cod.write.size = o + k * 3 from rfl] at *
      clear at0
      obtain ⟨cells, Pc⟩ := Hp.out
      have Hx := Lib.hid (toWrite_d x zKey zVal)
      have Pc := Lib.hid Pc
      clear Hp
      go_wp2_with fail
      refine (Hx.out _).mono ?_
      rintro e w1 ⟨⟨f, rfl, hx, hm⟩, k1⟩
      have hb2 := below_after k1 hb
      have hq := hb2.size
      have Pd := Pc.out.below k1
      obtain ⟨fs, hown, _⟩ := Pd
      replace hown : w1.ownsRow w.heap.size 86 3 (.slice (some ⟨w.heap.size, 0, none⟩) n n) n cells := hown
      have hlen : cells.length = n * 3 := hown.1
      obtain ⟨old0, g0⟩ : ∃ u, w1.cell? ⟨w.heap.size, k * 3, none⟩ = some u := ⟨_, by rw [hown.cellAt _ (by omega), List.getElem?_eq_getElem (by omega)]⟩
      have y0 := hown.frozenAt (k * 3)
      obtain ⟨old1, g1⟩ : ∃ u, w1.cell? ⟨w.heap.size, k * 3 + 1, none⟩ = some u := ⟨_, by rw [hown.cellAt _ (by omega), List.getElem?_eq_getElem (by omega)]⟩
      have y1 := hown.frozenAt (k * 3 + 1)
      obtain ⟨old2, g2⟩ : ∃ u, w1.cell? ⟨w.heap.size, k * 3 + 2, none⟩ = some u := ⟨_, by rw [hown.cellAt _ (by omega), List.getElem?_eq_getElem (by omega)]⟩
      have y2 := hown.frozenAt (k * 3 + 2)
      have Hset := Lib.hid (Pc.out.set k1 (vs := [.string x.Key, .string x.Val, .bool x.Gone]) rfl hx hm (by rw [hktl]; exact hlt))
      rw [hktl, ← Ht.out] at Hset
      clear hown Pc hktl Ht hx hm hlen
      go_wp2
      go_roundw
      case rel => exact ⟨k + 1, by go_num, by omega, Hset, below_setCell (below_setCell (below_setCell (hb2) (Nat.le_refl _)) (Nat.le_refl _)) (Nat.le_refl _)⟩
      case measure => simp [intOf]; omega
    · have hlt2 : (n : Int) ≤ (k : Int) := by omega
      obtain rfl : k = n := by omega
      go_wp2
      go_ret
      have hf : l.take k = l := List.take_of_length_le (by have := Hn.out; omega)
      have h3 := Hp.out
      rw [hf] at h3
      exact ⟨_, rfl, h3.own Hn.out, hb⟩

end Go.Proofs.YtpiheobpobclgaaDoor


/- laws.toRec, laws.toRecS. Printed by mkdata.py. -/
namespace Go.Proofs.YtpiheobpobclgaaDoor
open Go.RowKit

/-- What toRec gives. -/
def ToRec (x : RecD) (base : Nat) (e : Ending) (w' : World) : Prop :=
  ∃ pReads' cReads' pWrites' cWrites' f, e = .returned (.agg #[.int .i64 x.Kind, .int .i64 x.Txn, .int .i64 x.Time, .int .i64 x.Lead, .slice pReads' x.Reads.length cReads', .slice pWrites' x.Writes.length cWrites', .bool x.Yes]) ∧ Cod.recd.rd w' (lst [.int .i64 x.Kind, .int .i64 x.Txn, .int .i64 x.Time, .int .i64 x.Lead, .slice pReads' x.Reads.length cReads', .slice pWrites' x.Writes.length cWrites', .bool x.Yes]) x f ∧ Mine w' base f

set_option maxRecDepth 100000 in
set_option maxHeartbeats 1600000 in
/-- laws.toRec -/
theorem toRec_d (x : RecD) (zKind : I64 x.Kind) (zTxn : I64 x.Txn) (zTime : I64 x.Time) (zLead : I64 x.Lead) (lReads : x.Reads.length ≤ 1048576) (lWrites : costWriteS x.Writes ≤ 1048576) (w : World) (uReads : Value) (rReads : Rd (Cod.str) w uReads x.Reads) (uWrites : Value) (rWrites : Rd (Cod.write) w uWrites x.Writes) :
    Calls Tryd.prog 16 #[.agg #[.int .i64 x.Kind, .int .i64 x.Txn, .int .i64 x.Time, .int .i64 x.Lead, uReads, uWrites, .bool x.Yes]] w fun e w' => ToRec x w.heap.size e w' ∧ Below w.heap.size w w' := by
  unfold ToRec
  have Hm := Lib.hid (fun (W : World) (uReads : Value) (fReads : List Nat) (rReads : Cod.rdS (Cod.str) W uReads x.Reads fReads) (uWrites : Value) (fWrites : List Nat) (rWrites : Cod.rdS (Cod.write) W uWrites x.Writes fWrites) => mk_recd (w := W) (g := lst [.int .i64 x.Kind, .int .i64 x.Txn, .int .i64 x.Time, .int .i64 x.Lead, uReads, uWrites, .bool x.Yes]) (x := x) rfl zKind rfl zTxn rfl zTime rfl zLead rfl rReads rfl rWrites rfl)
  obtain ⟨xKind, xTxn, xTime, xLead, xReads, xWrites, xYes⟩ := x
  simp only at *
  have HReads := Lib.hid (fun (w : World) (r : Rd (Cod.str) w uReads xReads) => toStringSR_any uReads xReads lReads w r)
  have HWrites := Lib.hid (fun (w : World) (r : Rd (Cod.write) w uWrites xWrites) => toWriteS_any uWrites xWrites lWrites w r)
  go_enter Tryd.func16, Tryd.ntmps16
  go_wp2_with fail
  refine (HReads.out _ (rReads.below (by (repeat (first | exact Below.refl _ _ | exact below_new _ _ | refine below_setCell ?_ (by first | (simp; done) | (simp; omega) | omega) | refine below_alloc _ ?_ | refine below_drewN ?_ _ | refine below_after (by assumption) ?_ | assumption))))).mono ?_
  rintro e w1 ⟨uReads', rfl, o1, k1⟩
  obtain ⟨pReads', cReads', rfl⟩ := o1.form
  have b1 : Below w.heap.size w w1 := below_after k1 (by (repeat (first | exact Below.refl _ _ | exact below_new _ _ | refine below_setCell ?_ (by first | (simp; done) | (simp; omega) | omega) | refine below_alloc _ ?_ | refine below_drewN ?_ _ | refine below_after (by assumption) ?_ | assumption)))
  have hx1 := bcell k1
  have q10 : w.heap.size < w1.heap.size := by have := k1.size; first | (simp at this; omega) | omega
  have q11 : w.heap.size + 1 < w1.heap.size := by have := k1.size; first | (simp at this; omega) | omega
  have q12 : w.heap.size + 2 < w1.heap.size := by have := k1.size; first | (simp at this; omega) | omega
  replace o1 := o1.mono (base' := w.heap.size + 3) (by simp)
  go_wp2_with fail
  refine (HWrites.out _ (rWrites.below (below_link b1 (Below.refl _ _) (by (repeat (first | exact Below.refl _ _ | refine Below.setCell ?_ (by have := b1.size; first | (simp at this ⊢; omega) | (simp; omega) | omega | (simp; done)) _ | refine Below.alloc ?_ (by have := b1.size; first | (simp at this ⊢; omega) | (simp; omega) | omega) _ | refine below_drewN ?_ _)))))).mono ?_
  rintro e w2 ⟨uWrites', rfl, o2, k2⟩
  obtain ⟨pWrites', cWrites', rfl⟩ := o2.form
  have b2 : Below w.heap.size w w2 := below_link b1 k2 (by (repeat (first | exact Below.refl _ _ | refine Below.setCell ?_ (by have := b1.size; first | (simp at this ⊢; omega) | (simp; omega) | omega | (simp; done)) _ | refine Below.alloc ?_ (by have := b1.size; first | (simp at this ⊢; omega) | (simp; omega) | omega) _ | refine below_drewN ?_ _)))
  have hx2 := bcell k2
  have q20 : w.heap.size < w2.heap.size := by have := k2.size; first | (simp at this; omega) | omega
  have q21 : w.heap.size + 1 < w2.heap.size := by have := k2.size; first | (simp at this; omega) | omega
  have q22 : w.heap.size + 2 < w2.heap.size := by have := k2.size; first | (simp at this; omega) | omega
  replace o2 := o2.mono (base' := w1.heap.size) (by first | (simp; done) | omega | (simp; omega))
  have e2 : Keep (w.heap.size + 3) w1 w2 := keep_below k2 (by (repeat (first | (with_reducible exact Keep.refl _ _) | (with_reducible refine keep_set ?_ (by first | (simp; done) | (simp; omega) | omega)) | (with_reducible refine keep_alloc _ ?_) | (with_reducible refine keep_drewN ?_ _) | (with_reducible assumption) | (with_reducible refine keep_below (by assumption) ?_))))
  go_wp2
  obtain ⟨f1, s1, m1⟩ := o1
  obtain ⟨f2, s2, m2⟩ := o2
  refine bodyPost_ret (v := .agg #[.int .i64 xKind, .int .i64 xTxn, .int .i64 xTime, .int .i64 xLead, .slice pReads' xReads.length cReads', .slice pWrites' xWrites.length cWrites', .bool xYes]) (by simp [results, Tryd.results16, go_sem, hx1.1, hx2.1, q11]) rfl ⟨⟨pReads', cReads', pWrites', cWrites', _, rfl, Hm.out _ _ f1 ?r1 _ f2 ?r2, ?_⟩, ?_⟩
  case r1 => exact rdS_keep s1 m1 (B := w.heap.size + 3) (by omega) (by (repeat (first | (with_reducible exact Keep.refl _ _) | (with_reducible refine keep_set ?_ (by first | (simp; done) | (simp; omega) | omega)) | (with_reducible refine keep_alloc _ ?_) | (with_reducible refine keep_drewN ?_ _) | (with_reducible assumption) | (with_reducible refine keep_below (by assumption) ?_))))
  case r2 => exact rdS_keep s2 m2 (B := w.heap.size + 3) (by omega) (by (repeat (first | (with_reducible exact Keep.refl _ _) | (with_reducible refine keep_set ?_ (by first | (simp; done) | (simp; omega) | omega)) | (with_reducible refine keep_alloc _ ?_) | (with_reducible refine keep_drewN ?_ _) | (with_reducible assumption) | (with_reducible refine keep_below (by assumption) ?_))))
  · refine ((m1.keep (B := w.heap.size + 3) (by omega) (Cod.rdS_old _ s1) (by (repeat (first | (with_reducible exact Keep.refl _ _) | (with_reducible refine keep_set ?_ (by first | (simp; done) | (simp; omega) | omega)) | (with_reducible refine keep_alloc _ ?_) | (with_reducible refine keep_drewN ?_ _) | (with_reducible assumption) | (with_reducible refine keep_below (by assumption) ?_))))).mono (by omega)).app (((m2.keep (B := w.heap.size + 3) (by omega) (Cod.rdS_old _ s2) (by (repeat (first | (with_reducible exact Keep.refl _ _) | (with_reducible refine keep_set ?_ (by first | (simp; done) | (simp; omega) | omega)) | (with_reducible refine keep_alloc _ ?_) | (with_reducible refine keep_drewN ?_ _) | (with_reducible assumption) | (with_reducible refine keep_below (by assumption) ?_))))).mono (by omega)).app (Mine.nil _ _) (fun _ _ h => by cases h)) (fun b h1 h2 => ?_)
    have := Cod.rdS_old _ s1 b h1
    have := m2.low b (by simpa using h2)
    omega
  · (repeat (first | (with_reducible exact Below.refl _ _) | (with_reducible refine below_setCell ?_ (by first | (simp; done) | (simp; omega) | omega)) | (with_reducible refine below_alloc _ ?_) | (with_reducible refine below_drewN ?_ _) | (with_reducible assumption) | (with_reducible refine below_after (by assumption) ?_)))

theorem Tryd_info_recd : (Tryd.prog.info? 41).map (fun i => (i.zero, i.size, i.bytes)) = some (some (.agg #[.int .i64 0, .int .i64 0, .int .i64 0, .int .i64 0, .slice none 0 0, .slice none 0 0, .bool false]), 7, 88) := by kernel_rfl

end Go.Proofs.YtpiheobpobclgaaDoor


/- laws.toEntry, laws.toEntryS. Printed by mkdata2.py. -/
namespace Go.Proofs.YtpiheobpobclgaaDoor
open Go.RowKit

/-- What toEntry gives. -/
def ToEntry (x : EntryD) (base : Nat) (e : Ending) (w' : World) : Prop :=
  ∃ pRecReads' cRecReads' pRecWrites' cRecWrites' f, e = .returned (.agg #[.int .i64 x.Term, .int .i64 x.Rec.Kind, .int .i64 x.Rec.Txn, .int .i64 x.Rec.Time, .int .i64 x.Rec.Lead, .slice pRecReads' x.Rec.Reads.length cRecReads', .slice pRecWrites' x.Rec.Writes.length cRecWrites', .bool x.Rec.Yes]) ∧ Cod.entry.rd w' (lst [.int .i64 x.Term, .int .i64 x.Rec.Kind, .int .i64 x.Rec.Txn, .int .i64 x.Rec.Time, .int .i64 x.Rec.Lead, .slice pRecReads' x.Rec.Reads.length cRecReads', .slice pRecWrites' x.Rec.Writes.length cRecWrites', .bool x.Rec.Yes]) x f ∧ Mine w' base f

end Go.Proofs.YtpiheobpobclgaaDoor


/- laws.toReplica, laws.toReplicaS. Printed by mkdata2.py. -/
namespace Go.Proofs.YtpiheobpobclgaaDoor
open Go.RowKit

/-- What toReplica gives. -/
def ToReplica (x : ReplicaD) (base : Nat) (e : Ending) (w' : World) : Prop :=
  ∃ pLog' cLog' f, e = .returned (.agg #[.bool x.Up, .slice pLog' x.Log.length cLog', .int .i64 x.Sure]) ∧ Cod.replica.rd w' (lst [.bool x.Up, .slice pLog' x.Log.length cLog', .int .i64 x.Sure]) x f ∧ Mine w' base f

end Go.Proofs.YtpiheobpobclgaaDoor


/- laws.toGroup, laws.toGroupS. Printed by mkdata2.py. -/
namespace Go.Proofs.YtpiheobpobclgaaDoor
open Go.RowKit

/-- What toGroup gives. -/
def ToGroup (x : GroupD) (base : Nat) (e : Ending) (w' : World) : Prop :=
  ∃ pReps' cReps' f, e = .returned (.agg #[.slice pReps' x.Reps.length cReps', .int .i64 x.Term, .int .i64 x.Lead]) ∧ Cod.group.rd w' (lst [.slice pReps' x.Reps.length cReps', .int .i64 x.Term, .int .i64 x.Lead]) x f ∧ Mine w' base f

end Go.Proofs.YtpiheobpobclgaaDoor

