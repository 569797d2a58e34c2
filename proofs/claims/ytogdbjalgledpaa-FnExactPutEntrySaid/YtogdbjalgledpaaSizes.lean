/- Plain lemmas and contracts that all proofs of this seat lean on: bundle Sizes. -/
import Derived.Test.YtogdbjalgledpaaData
import Derived.Test.YtogdbjalgledpaaRStr
import Derived.Test.YtogdbjalgledpaaData2
/- laws.szWrite, laws.szWriteS. Printed by mkdata.py. -/
namespace Go.Proofs.Ytogdbjalgledpaa
open Go.RowKit

set_option maxRecDepth 100000 in
/-- laws.szWrite -/
theorem szWrite_any (x : WriteD) (bKey : x.Key.size ≤ maxLen) (bVal : x.Val.size ≤ maxLen) (left : Int) (h0 : 0 ≤ left) (h1 : left ≤ 1048576) (w : World) :
    Calls Try.prog 94 #[.agg #[.string x.Key, .string x.Val, .bool x.Gone], .int .i64 left] w (SzP (costWrite x) left w) := by
  unfold SzP costWrite
  obtain ⟨xKey, xVal, xGone⟩ := x
  simp only at *
  unfold maxLen at bKey bVal
  have cKey : (xKey.size : Int) ≤ 9223372036854775807 := by omega
  have cVal : (xVal.size : Int) ≤ 9223372036854775807 := by omega
  by_cases nKey : left - (xKey.size : Int) < 0
  · go_enter Try.func94, Try.ntmps94
    go_wp2
    go_ret
    exact ⟨by (repeat (first | exact Below.refl _ _ | exact below_new _ _ | refine below_setCell ?_ (by first | (simp; done) | (simp; omega) | omega) | refine below_alloc _ ?_ | refine below_drewN ?_ _ | refine below_after (by assumption) ?_ | assumption)), Or.inr ⟨rfl, by omega⟩⟩
  have pKey : 0 ≤ left - (xKey.size : Int) := by omega
  clear nKey
  by_cases nVal : left - (xKey.size : Int) - (xVal.size : Int) < 0
  · go_enter Try.func94, Try.ntmps94
    go_wp2
    go_ret
    exact ⟨by (repeat (first | exact Below.refl _ _ | exact below_new _ _ | refine below_setCell ?_ (by first | (simp; done) | (simp; omega) | omega) | refine below_alloc _ ?_ | refine below_drewN ?_ _ | refine below_after (by assumption) ?_ | assumption)), Or.inr ⟨rfl, by omega⟩⟩
  have pVal : 0 ≤ left - (xKey.size : Int) - (xVal.size : Int) := by omega
  clear nVal
  go_enter Try.func94, Try.ntmps94
  go_wp2
  go_ret
  exact ⟨by (repeat (first | exact Below.refl _ _ | exact below_new _ _ | refine below_setCell ?_ (by first | (simp; done) | (simp; omega) | omega) | refine below_alloc _ ?_ | refine below_drewN ?_ _ | refine below_after (by assumption) ?_ | assumption)), Or.inl ⟨ret_int (by omega), by omega⟩⟩

set_option maxRecDepth 100000 in
/-- laws.szWriteS -/
theorem szWriteS_any (v : Value) (l : List WriteD) (left : Int) (h0 : 0 ≤ left) (h1 : left ≤ 1048576) (w : World) (h : Rd Cod.write w v l) :
    Calls Try.prog 54 #[v, .int .i64 left] w (SzP (costWriteS l) left w) := by
  obtain ⟨p, c, rfl, hlc, hcm, r⟩ := h.form
  have R := Lib.hid r
  clear r h
  have hl : l.length ≤ maxLen := Nat.le_trans hlc hcm
  clear hlc hcm
  unfold maxLen at hl
  unfold SzP costWriteS
  obtain ⟨n, hn⟩ : ∃ n : Nat, l.length = n := ⟨_, rfl⟩
  have Hn := Lib.hid hn
  rw [hn]
  have hnb : (n : Int) ≤ 9223372036854775807 := by omega
  clear hn hl
  by_cases hneg : left - (n : Int) < 0
  · go_enter Try.func54, Try.ntmps54
    go_wp2
    go_ret
    exact ⟨Below.refl _ _, Or.inr ⟨rfl, by omega⟩⟩
  have hpos : 0 ≤ left - (n : Int) := by omega
  clear hneg
  go_enter Try.func54, Try.ntmps54
  go_wp2
  go_loopw [1, 5] (fun t i wr => ∃ k : Nat, i = .int .i64 (k : Int) ∧ k ≤ n ∧ t = .int .i64 (left - (n : Int) - (sumC costWrite (l.take k) : Int)) ∧ 0 ≤ left - (n : Int) - (sumC costWrite (l.take k) : Int) ∧ Below w.heap.size w wr) (fun _ i _ => n - (intOf i).toNat)
  case atStart => exact ⟨0, rfl, Nat.zero_le _, by simp [sumC], by simp [sumC]; omega, Below.refl _ _⟩
  case round =>
    obtain ⟨k, rfl, hk, rfl, hge, hb⟩ := hrel
    by_cases hlt : k < n
    · have hlt2 : (k : Int) < (n : Int) := by omega
      have hkl : k < l.length := by have := Hn.out; omega
      obtain ⟨g, o, rfl, hg, hc⟩ := R.out (by have := Hn.out; omega)
      have at0 := (hc k hkl).below hg hb
      have hst := sumC_take costWrite l k hkl
      have hle := sumC_le costWrite l (k + 1)
      obtain ⟨x, es⟩ : ∃ x, l[k] = x := ⟨_, rfl⟩
      rw [es] at at0 hst
      obtain ⟨t, ht⟩ : ∃ t : Nat, sumC costWrite (l.take k) = t := ⟨_, rfl⟩
      rw [ht] at hst hge ⊢
      have Hst := Lib.hid hst
      have Hle := Lib.hid hle
      clear hc es hkl hst hle ht
      obtain ⟨d0, d1, d2, zKey, zVal⟩ := at_write at0
      rw [show o + k * Cod.write.size = o + k * 3 from rfl] at *
      clear at0
      go_wp2_with fail
      refine (szWrite_any x zKey zVal _ (by omega) (by omega) _).mono ?_
      rintro e w1 ⟨k1, ⟨rfl, p1⟩ | ⟨rfl, p1⟩⟩
      · have b1 := below_after k1 hb
        go_wp2
        go_roundw
        case rel => exact ⟨k + 1, by go_num, by omega, by rw [Hst.out]; go_num, by rw [Hst.out]; omega, b1⟩
        case measure => simp [intOf]; omega
      · go_wp2
        go_ret
        exact ⟨below_after k1 hb, Or.inr ⟨rfl, by have := Hst.out; have := Hle.out; omega⟩⟩
    · have hlt2 : (n : Int) ≤ (k : Int) := by omega
      obtain rfl : k = n := by omega
      have ht : l.take k = l := List.take_of_length_le (by have := Hn.out; omega)
      rw [ht] at hge ⊢
      clear ht
      go_wp2
      go_ret
      exact ⟨hb, Or.inl ⟨ret_int (by omega), by omega⟩⟩

end Go.Proofs.Ytogdbjalgledpaa


/- laws.szRec, laws.szRecS. Printed by mkdata.py. -/
namespace Go.Proofs.Ytogdbjalgledpaa
open Go.RowKit

set_option maxRecDepth 100000 in
/-- laws.szRec -/
theorem szRec_any (x : RecD) (left : Int) (h0 : 0 ≤ left) (h1 : left ≤ 1048576) (w : World) (uReads : Value) (rReads : Rd (Cod.str) w uReads x.Reads) (uWrites : Value) (rWrites : Rd (Cod.write) w uWrites x.Writes) :
    Calls Try.prog 19 #[.agg #[.int .i64 x.Kind, .int .i64 x.Txn, .int .i64 x.Time, .int .i64 x.Lead, uReads, uWrites, .bool x.Yes], .int .i64 left] w (SzP (costRec x) left w) := by
  unfold SzP costRec
  obtain ⟨xKind, xTxn, xTime, xLead, xReads, xWrites, xYes⟩ := x
  simp only at *
  have HReads := Lib.hid (fun (left : Int) (h0 : 0 ≤ left) (h1 : left ≤ 1048576) (w : World) (r : Rd (Cod.str) w uReads xReads) => szStringSR_any uReads xReads left h0 h1 w r)
  have HWrites := Lib.hid (fun (left : Int) (h0 : 0 ≤ left) (h1 : left ≤ 1048576) (w : World) (r : Rd (Cod.write) w uWrites xWrites) => szWriteS_any uWrites xWrites left h0 h1 w r)
  generalize costStringS xReads = kReads at *
  generalize costWriteS xWrites = kWrites at *
  go_enter Try.func19, Try.ntmps19
  go_wp2_with fail
  refine (HReads.out _ (by omega) (by omega) _ (rReads.below (by (repeat (first | exact Below.refl _ _ | exact below_new _ _ | refine below_setCell ?_ (by first | (simp; done) | (simp; omega) | omega) | refine below_alloc _ ?_ | refine below_drewN ?_ _ | refine below_after (by assumption) ?_ | assumption))))).mono ?_
  rintro e w1 ⟨k1, ⟨rfl, p1⟩ | ⟨rfl, p1⟩⟩
  rotate_left
  · go_wp2
    go_ret
    exact ⟨below_after k1 (by (repeat (first | exact Below.refl _ _ | exact below_new _ _ | refine below_setCell ?_ (by first | (simp; done) | (simp; omega) | omega) | refine below_alloc _ ?_ | refine below_drewN ?_ _ | refine below_after (by assumption) ?_ | assumption))), Or.inr ⟨rfl, by omega⟩⟩
  have b1 : Below w.heap.size w w1 := below_after k1 (by (repeat (first | exact Below.refl _ _ | exact below_new _ _ | refine below_setCell ?_ (by first | (simp; done) | (simp; omega) | omega) | refine below_alloc _ ?_ | refine below_drewN ?_ _ | refine below_after (by assumption) ?_ | assumption)))
  have hx1 := bcell k1
  have hz1 := b1.size
  go_wp2_with fail
  refine (HWrites.out _ (by omega) (by omega) _ (rWrites.below b1)).mono ?_
  rintro e w2 ⟨k2, ⟨rfl, p2⟩ | ⟨rfl, p2⟩⟩
  rotate_left
  · go_wp2
    go_ret
    exact ⟨below_after k2 b1, Or.inr ⟨rfl, by omega⟩⟩
  have b2 : Below w.heap.size w w2 := below_after k2 b1
  have hx2 := bcell k2
  have hz2 := b2.size
  go_wp2
  go_ret
  exact ⟨b2, Or.inl ⟨ret_int (by omega), by omega⟩⟩

end Go.Proofs.Ytogdbjalgledpaa


/- laws.szEntry, laws.szEntryS. Printed by mkdata2.py. -/
namespace Go.Proofs.Ytogdbjalgledpaa
open Go.RowKit

set_option maxRecDepth 100000 in
/-- laws.szEntry -/
theorem szEntry_any (x : EntryD) (left : Int) (h0 : 0 ≤ left) (h1 : left ≤ 1048576) (w : World) (uRecReads : Value) (rRecReads : Rd Cod.str w uRecReads x.Rec.Reads) (uRecWrites : Value) (rRecWrites : Rd Cod.write w uRecWrites x.Rec.Writes) :
    Calls Try.prog 132 #[.agg #[.int .i64 x.Term, .int .i64 x.Rec.Kind, .int .i64 x.Rec.Txn, .int .i64 x.Rec.Time, .int .i64 x.Rec.Lead, uRecReads, uRecWrites, .bool x.Rec.Yes], .int .i64 left] w (SzP (costEntry x) left w) := by
  have Hc := Lib.hid (fun (W : World) (k : Below w.heap.size w W) => szRec_any x.Rec left h0 h1 W uRecReads (rRecReads.below k) uRecWrites (rRecWrites.below k))
  obtain ⟨term, ⟨a, b, c, d, rs, ws, y⟩⟩ := x
  unfold SzP at *
  have hcost : costEntry ⟨term, ⟨a, b, c, d, rs, ws, y⟩⟩ = costRec ⟨a, b, c, d, rs, ws, y⟩ := rfl
  rw [hcost]
  clear hcost
  dsimp only at Hc rRecReads rRecWrites ⊢
  obtain ⟨pr, cr, rfl, -⟩ := rRecReads.form
  obtain ⟨pw, cw, rfl, -⟩ := rRecWrites.form
  clear rRecReads rRecWrites
  generalize costRec ⟨a, b, c, d, rs, ws, y⟩ = n at *
  go_enter Try.func132, Try.ntmps132
  go_wp2_with fail
  refine (Hc.out _ (by (repeat (first | exact Below.refl _ _ | exact below_new _ _ | refine below_setCell ?_ (by first | (simp; done) | (simp; omega) | omega) | refine below_alloc _ ?_ | refine below_drewN ?_ _ | refine below_after (by assumption) ?_ | assumption)))).mono ?_
  rintro e w1 ⟨k1, ⟨rfl, p1⟩ | ⟨rfl, p1⟩⟩
  · go_wp2
    go_ret
    exact ⟨below_after k1 (by (repeat (first | exact Below.refl _ _ | exact below_new _ _ | refine below_setCell ?_ (by first | (simp; done) | (simp; omega) | omega) | refine below_alloc _ ?_ | refine below_drewN ?_ _ | refine below_after (by assumption) ?_ | assumption))), Or.inl ⟨rfl, p1⟩⟩
  · go_wp2
    go_ret
    exact ⟨below_after k1 (by (repeat (first | exact Below.refl _ _ | exact below_new _ _ | refine below_setCell ?_ (by first | (simp; done) | (simp; omega) | omega) | refine below_alloc _ ?_ | refine below_drewN ?_ _ | refine below_after (by assumption) ?_ | assumption))), Or.inr ⟨rfl, p1⟩⟩

set_option maxRecDepth 100000 in
/-- laws.szEntryS -/
theorem szEntryS_any (v : Value) (l : List EntryD) (left : Int) (h0 : 0 ≤ left) (h1 : left ≤ 1048576) (w : World) (h : Rd Cod.entry w v l) :
    Calls Try.prog 114 #[v, .int .i64 left] w (SzP (costEntryS l) left w) := by
  obtain ⟨p, c, rfl, hlc, hcm, r⟩ := h.form
  have R := Lib.hid r
  clear r h
  have hl : l.length ≤ maxLen := Nat.le_trans hlc hcm
  clear hlc hcm
  unfold maxLen at hl
  unfold SzP costEntryS
  obtain ⟨n, hn⟩ : ∃ n : Nat, l.length = n := ⟨_, rfl⟩
  have Hn := Lib.hid hn
  rw [hn]
  have hnb : (n : Int) ≤ 9223372036854775807 := by omega
  clear hn hl
  by_cases hneg : left - (n : Int) < 0
  · go_enter Try.func114, Try.ntmps114
    go_wp2
    go_ret
    exact ⟨Below.refl _ _, Or.inr ⟨rfl, by omega⟩⟩
  have hpos : 0 ≤ left - (n : Int) := by omega
  clear hneg
  go_enter Try.func114, Try.ntmps114
  go_wp2
  go_loopw [1, 5] (fun t i wr => ∃ k : Nat, i = .int .i64 (k : Int) ∧ k ≤ n ∧ t = .int .i64 (left - (n : Int) - (sumC costEntry (l.take k) : Int)) ∧ 0 ≤ left - (n : Int) - (sumC costEntry (l.take k) : Int) ∧ Below w.heap.size w wr) (fun _ i _ => n - (intOf i).toNat)
  case atStart => exact ⟨0, rfl, Nat.zero_le _, by simp [sumC], by simp [sumC]; omega, Below.refl _ _⟩
  case round =>
    obtain ⟨k, rfl, hk, rfl, hge, hb⟩ := hrel
    by_cases hlt : k < n
    · have hlt2 : (k : Int) < (n : Int) := by omega
      have hkl : k < l.length := by have := Hn.out; omega
      obtain ⟨g, o, rfl, hg, hc⟩ := R.out (by have := Hn.out; omega)
      have at0 := (hc k hkl).below hg hb
      have hst := sumC_take costEntry l k hkl
      have hle := sumC_le costEntry l (k + 1)
      obtain ⟨x, es⟩ : ∃ x, l[k] = x := ⟨_, rfl⟩
      rw [es] at at0 hst
      obtain ⟨t, ht⟩ : ∃ t : Nat, sumC costEntry (l.take k) = t := ⟨_, rfl⟩
      rw [ht] at hst hge ⊢
      have Hst := Lib.hid hst
      have Hle := Lib.hid hle
      clear hc es hkl hst hle ht
      obtain ⟨d0, d1, d2, d3, d4, ⟨uRecReads, d5, rRecReads⟩, ⟨uRecWrites, d6, rRecWrites⟩, d7, zTerm, zRecKind, zRecTxn, zRecTime, zRecLead⟩ := at_entry at0
      rw [show o + k * Cod.entry.size = o + k * 8 from rfl] at *
      clear at0
      go_wp2_with fail
      refine (szEntry_any x _ (by omega) (by omega) _ _ rRecReads _ rRecWrites).mono ?_
      rintro e w1 ⟨k1, ⟨rfl, p1⟩ | ⟨rfl, p1⟩⟩
      · have b1 := below_after k1 hb
        go_wp2
        go_roundw
        case rel => exact ⟨k + 1, by go_num, by omega, by rw [Hst.out]; go_num, by rw [Hst.out]; omega, b1⟩
        case measure => simp [intOf]; omega
      · go_wp2
        go_ret
        exact ⟨below_after k1 hb, Or.inr ⟨rfl, by have := Hst.out; have := Hle.out; omega⟩⟩
    · have hlt2 : (n : Int) ≤ (k : Int) := by omega
      obtain rfl : k = n := by omega
      have ht : l.take k = l := List.take_of_length_le (by have := Hn.out; omega)
      rw [ht] at hge ⊢
      clear ht
      go_wp2
      go_ret
      exact ⟨hb, Or.inl ⟨ret_int (by omega), by omega⟩⟩

end Go.Proofs.Ytogdbjalgledpaa


/- laws.szReplica, laws.szReplicaS. Printed by mkdata2.py. -/
namespace Go.Proofs.Ytogdbjalgledpaa
open Go.RowKit

set_option maxRecDepth 100000 in
/-- laws.szReplica -/
theorem szReplica_any (x : ReplicaD) (left : Int) (h0 : 0 ≤ left) (h1 : left ≤ 1048576) (w : World) (uLog : Value) (rLog : Rd (Cod.entry) w uLog x.Log) :
    Calls Try.prog 84 #[.agg #[.bool x.Up, uLog, .int .i64 x.Sure], .int .i64 left] w (SzP (costReplica x) left w) := by
  unfold SzP costReplica
  obtain ⟨xUp, xLog, xSure⟩ := x
  simp only at *
  have HLog := Lib.hid (fun (left : Int) (h0 : 0 ≤ left) (h1 : left ≤ 1048576) (w : World) (r : Rd (Cod.entry) w uLog xLog) => szEntryS_any uLog xLog left h0 h1 w r)
  generalize costEntryS xLog = kLog at *
  go_enter Try.func84, Try.ntmps84
  go_wp2_with fail
  refine (HLog.out _ (by omega) (by omega) _ (rLog.below (by (repeat (first | exact Below.refl _ _ | exact below_new _ _ | refine below_setCell ?_ (by first | (simp; done) | (simp; omega) | omega) | refine below_alloc _ ?_ | refine below_drewN ?_ _ | refine below_after (by assumption) ?_ | assumption))))).mono ?_
  rintro e w1 ⟨k1, ⟨rfl, p1⟩ | ⟨rfl, p1⟩⟩
  rotate_left
  · go_wp2
    go_ret
    exact ⟨below_after k1 (by (repeat (first | exact Below.refl _ _ | exact below_new _ _ | refine below_setCell ?_ (by first | (simp; done) | (simp; omega) | omega) | refine below_alloc _ ?_ | refine below_drewN ?_ _ | refine below_after (by assumption) ?_ | assumption))), Or.inr ⟨rfl, by omega⟩⟩
  have b1 : Below w.heap.size w w1 := below_after k1 (by (repeat (first | exact Below.refl _ _ | exact below_new _ _ | refine below_setCell ?_ (by first | (simp; done) | (simp; omega) | omega) | refine below_alloc _ ?_ | refine below_drewN ?_ _ | refine below_after (by assumption) ?_ | assumption)))
  have hx1 := bcell k1
  have hz1 := b1.size
  go_wp2
  go_ret
  exact ⟨b1, Or.inl ⟨ret_int (by omega), by omega⟩⟩

set_option maxRecDepth 100000 in
/-- laws.szReplicaS -/
theorem szReplicaS_any (v : Value) (l : List ReplicaD) (left : Int) (h0 : 0 ≤ left) (h1 : left ≤ 1048576) (w : World) (h : Rd Cod.replica w v l) :
    Calls Try.prog 41 #[v, .int .i64 left] w (SzP (costReplicaS l) left w) := by
  obtain ⟨p, c, rfl, hlc, hcm, r⟩ := h.form
  have R := Lib.hid r
  clear r h
  have hl : l.length ≤ maxLen := Nat.le_trans hlc hcm
  clear hlc hcm
  unfold maxLen at hl
  unfold SzP costReplicaS
  obtain ⟨n, hn⟩ : ∃ n : Nat, l.length = n := ⟨_, rfl⟩
  have Hn := Lib.hid hn
  rw [hn]
  have hnb : (n : Int) ≤ 9223372036854775807 := by omega
  clear hn hl
  by_cases hneg : left - (n : Int) < 0
  · go_enter Try.func41, Try.ntmps41
    go_wp2
    go_ret
    exact ⟨Below.refl _ _, Or.inr ⟨rfl, by omega⟩⟩
  have hpos : 0 ≤ left - (n : Int) := by omega
  clear hneg
  go_enter Try.func41, Try.ntmps41
  go_wp2
  go_loopw [1, 5] (fun t i wr => ∃ k : Nat, i = .int .i64 (k : Int) ∧ k ≤ n ∧ t = .int .i64 (left - (n : Int) - (sumC costReplica (l.take k) : Int)) ∧ 0 ≤ left - (n : Int) - (sumC costReplica (l.take k) : Int) ∧ Below w.heap.size w wr) (fun _ i _ => n - (intOf i).toNat)
  case atStart => exact ⟨0, rfl, Nat.zero_le _, by simp [sumC], by simp [sumC]; omega, Below.refl _ _⟩
  case round =>
    obtain ⟨k, rfl, hk, rfl, hge, hb⟩ := hrel
    by_cases hlt : k < n
    · have hlt2 : (k : Int) < (n : Int) := by omega
      have hkl : k < l.length := by have := Hn.out; omega
      obtain ⟨g, o, rfl, hg, hc⟩ := R.out (by have := Hn.out; omega)
      have at0 := (hc k hkl).below hg hb
      have hst := sumC_take costReplica l k hkl
      have hle := sumC_le costReplica l (k + 1)
      obtain ⟨x, es⟩ : ∃ x, l[k] = x := ⟨_, rfl⟩
      rw [es] at at0 hst
      obtain ⟨t, ht⟩ : ∃ t : Nat, sumC costReplica (l.take k) = t := ⟨_, rfl⟩
      rw [ht] at hst hge ⊢
      have Hst := Lib.hid hst
      have Hle := Lib.hid hle
      clear hc es hkl hst hle ht
      obtain ⟨d0, ⟨uLog, d1, rLog⟩, d2, zSure⟩ := at_replica at0
      rw [show o + k * Cod.replica.size = o + k * 3 from rfl] at *
      clear at0
      go_wp2_with fail
      refine (szReplica_any x _ (by omega) (by omega) _ _ rLog).mono ?_
      rintro e w1 ⟨k1, ⟨rfl, p1⟩ | ⟨rfl, p1⟩⟩
      · have b1 := below_after k1 hb
        go_wp2
        go_roundw
        case rel => exact ⟨k + 1, by go_num, by omega, by rw [Hst.out]; go_num, by rw [Hst.out]; omega, b1⟩
        case measure => simp [intOf]; omega
      · go_wp2
        go_ret
        exact ⟨below_after k1 hb, Or.inr ⟨rfl, by have := Hst.out; have := Hle.out; omega⟩⟩
    · have hlt2 : (n : Int) ≤ (k : Int) := by omega
      obtain rfl : k = n := by omega
      have ht : l.take k = l := List.take_of_length_le (by have := Hn.out; omega)
      rw [ht] at hge ⊢
      clear ht
      go_wp2
      go_ret
      exact ⟨hb, Or.inl ⟨ret_int (by omega), by omega⟩⟩

end Go.Proofs.Ytogdbjalgledpaa


/- laws.szGroup, laws.szGroupS. Printed by mkdata2.py. -/
namespace Go.Proofs.Ytogdbjalgledpaa
open Go.RowKit

set_option maxRecDepth 100000 in
/-- laws.szGroup -/
theorem szGroup_any (x : GroupD) (left : Int) (h0 : 0 ≤ left) (h1 : left ≤ 1048576) (w : World) (uReps : Value) (rReps : Rd (Cod.replica) w uReps x.Reps) :
    Calls Try.prog 10 #[.agg #[uReps, .int .i64 x.Term, .int .i64 x.Lead], .int .i64 left] w (SzP (costGroup x) left w) := by
  unfold SzP costGroup
  obtain ⟨xReps, xTerm, xLead⟩ := x
  simp only at *
  have HReps := Lib.hid (fun (left : Int) (h0 : 0 ≤ left) (h1 : left ≤ 1048576) (w : World) (r : Rd (Cod.replica) w uReps xReps) => szReplicaS_any uReps xReps left h0 h1 w r)
  generalize costReplicaS xReps = kReps at *
  go_enter Try.func10, Try.ntmps10
  go_wp2_with fail
  refine (HReps.out _ (by omega) (by omega) _ (rReps.below (by (repeat (first | exact Below.refl _ _ | exact below_new _ _ | refine below_setCell ?_ (by first | (simp; done) | (simp; omega) | omega) | refine below_alloc _ ?_ | refine below_drewN ?_ _ | refine below_after (by assumption) ?_ | assumption))))).mono ?_
  rintro e w1 ⟨k1, ⟨rfl, p1⟩ | ⟨rfl, p1⟩⟩
  rotate_left
  · go_wp2
    go_ret
    exact ⟨below_after k1 (by (repeat (first | exact Below.refl _ _ | exact below_new _ _ | refine below_setCell ?_ (by first | (simp; done) | (simp; omega) | omega) | refine below_alloc _ ?_ | refine below_drewN ?_ _ | refine below_after (by assumption) ?_ | assumption))), Or.inr ⟨rfl, by omega⟩⟩
  have b1 : Below w.heap.size w w1 := below_after k1 (by (repeat (first | exact Below.refl _ _ | exact below_new _ _ | refine below_setCell ?_ (by first | (simp; done) | (simp; omega) | omega) | refine below_alloc _ ?_ | refine below_drewN ?_ _ | refine below_after (by assumption) ?_ | assumption)))
  have hx1 := bcell k1
  have hz1 := b1.size
  go_wp2
  go_ret
  exact ⟨b1, Or.inl ⟨ret_int (by omega), by omega⟩⟩

end Go.Proofs.Ytogdbjalgledpaa

