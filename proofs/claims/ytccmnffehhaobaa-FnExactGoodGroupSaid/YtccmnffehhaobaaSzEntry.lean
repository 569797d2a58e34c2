/- laws.szEntry, laws.szEntryS. Printed by mkdata2.py. -/
import Derived.Test.YtccmnffehhaobaaData2
import Derived.Test.YtccmnffehhaobaaSzRec
namespace Go.Proofs.Ytccmnffehhaobaa
open Go.RowKit

set_option maxRecDepth 100000 in
/-- laws.szEntry -/
theorem szEntry_any (x : EntryD) (left : Int) (h0 : 0 ≤ left) (h1 : left ≤ 1048576) (w : World) (uRecReads : Value) (rRecReads : Rd Cod.str w uRecReads x.Rec.Reads) (uRecWrites : Value) (rRecWrites : Rd Cod.write w uRecWrites x.Rec.Writes) :
    Calls Try.prog 260 #[.agg #[.int .i64 x.Term, .int .i64 x.Rec.Kind, .int .i64 x.Rec.Txn, .int .i64 x.Rec.Time, .int .i64 x.Rec.Lead, uRecReads, uRecWrites, .bool x.Rec.Yes], .int .i64 left] w (SzP (costEntry x) left w) := by
  have Hc := Lib.hid (fun (W : World) (k : Below w.heap.size w W) => szRec_any x.Rec left h0 h1 W uRecReads (rRecReads.below k) uRecWrites (rRecWrites.below k))
  obtain ⟨term, ⟨a, b, c, d, rs, ws, y⟩⟩ := x
  unfold SzP at *
  have hcost : costEntry ⟨term, ⟨a, b, c, d, rs, ws, y⟩⟩ = costRec ⟨a, b, c, d, rs, ws, y⟩ := rfl
  rw [hcost]
  clear hcost
  dsimp only at Hc rRecReads rRecWrites ⊢
  obtain ⟨pr, cr, rfl, -⟩ := rRecReads.form
  obtain ⟨pw, cw, rfl, -⟩ := rRecWrites.form
  clear rRecReads rRecWrites
  generalize costRec ⟨a, b, c, d, rs, ws, y⟩ = n at *
  go_enter Try.func260, Try.ntmps260
  go_wp2_with fail
  refine (Hc.out _ (by (repeat (first | exact Below.refl _ _ | exact below_new _ _ | refine below_setCell ?_ (by first | (simp; done) | (simp; omega) | omega) | refine below_alloc _ ?_ | refine below_drewN ?_ _ | refine below_after (by assumption) ?_ | assumption)))).mono ?_
  rintro e w1 ⟨k1, ⟨rfl, p1⟩ | ⟨rfl, p1⟩⟩
  · go_wp2
    go_ret
    exact ⟨below_after k1 (by (repeat (first | exact Below.refl _ _ | exact below_new _ _ | refine below_setCell ?_ (by first | (simp; done) | (simp; omega) | omega) | refine below_alloc _ ?_ | refine below_drewN ?_ _ | refine below_after (by assumption) ?_ | assumption))), Or.inl ⟨rfl, p1⟩⟩
  · go_wp2
    go_ret
    exact ⟨below_after k1 (by (repeat (first | exact Below.refl _ _ | exact below_new _ _ | refine below_setCell ?_ (by first | (simp; done) | (simp; omega) | omega) | refine below_alloc _ ?_ | refine below_drewN ?_ _ | refine below_after (by assumption) ?_ | assumption))), Or.inr ⟨rfl, p1⟩⟩

set_option maxRecDepth 100000 in
/-- laws.szEntryS -/
theorem szEntryS_any (v : Value) (l : List EntryD) (left : Int) (h0 : 0 ≤ left) (h1 : left ≤ 1048576) (w : World) (h : Rd Cod.entry w v l) :
    Calls Try.prog 241 #[v, .int .i64 left] w (SzP (costEntryS l) left w) := by
  obtain ⟨p, c, rfl, hlc, hcm, r⟩ := h.form
  have R := Lib.hid r
  clear r h
  have hl : l.length ≤ maxLen := Nat.le_trans hlc hcm
  clear hlc hcm
  unfold maxLen at hl
  unfold SzP costEntryS
  obtain ⟨n, hn⟩ : ∃ n : Nat, l.length = n := ⟨_, rfl⟩
  have Hn := Lib.hid hn
  rw [hn]
  have hnb : (n : Int) ≤ 9223372036854775807 := by omega
  clear hn hl
  by_cases hneg : left - (n : Int) < 0
  · go_enter Try.func241, Try.ntmps241
    go_wp2
    go_ret
    exact ⟨Below.refl _ _, Or.inr ⟨rfl, by omega⟩⟩
  have hpos : 0 ≤ left - (n : Int) := by omega
  clear hneg
  go_enter Try.func241, Try.ntmps241
  go_wp2
  go_loopw [1, 5] (fun t i wr => ∃ k : Nat, i = .int .i64 (k : Int) ∧ k ≤ n ∧ t = .int .i64 (left - (n : Int) - (sumC costEntry (l.take k) : Int)) ∧ 0 ≤ left - (n : Int) - (sumC costEntry (l.take k) : Int) ∧ Below w.heap.size w wr) (fun _ i _ => n - (intOf i).toNat)
  case atStart => exact ⟨0, rfl, Nat.zero_le _, by simp [sumC], by simp [sumC]; omega, Below.refl _ _⟩
  case round =>
    obtain ⟨k, rfl, hk, rfl, hge, hb⟩ := hrel
    by_cases hlt : k < n
    · have hlt2 : (k : Int) < (n : Int) := by omega
      have hkl : k < l.length := by have := Hn.out; omega
      obtain ⟨g, o, rfl, hg, hc⟩ := R.out (by have := Hn.out; omega)
      have at0 := (hc k hkl).below hg hb
      have hst := sumC_take costEntry l k hkl
      have hle := sumC_le costEntry l (k + 1)
      obtain ⟨x, es⟩ : ∃ x, l[k] = x := ⟨_, rfl⟩
      rw [es] at at0 hst
      obtain ⟨t, ht⟩ : ∃ t : Nat, sumC costEntry (l.take k) = t := ⟨_, rfl⟩
      rw [ht] at hst hge ⊢
      have Hst := Lib.hid hst
      have Hle := Lib.hid hle
      clear hc es hkl hst hle ht
      obtain ⟨d0, d1, d2, d3, d4, ⟨uRecReads, d5, rRecReads⟩, ⟨uRecWrites, d6, rRecWrites⟩, d7, zTerm, zRecKind, zRecTxn, zRecTime, zRecLead⟩ := at_entry at0
      rw [show o + k * Cod.entry.size = o + k * 8 from rfl] at *
      clear at0
      go_wp2_with fail
      refine (szEntry_any x _ (by omega) (by omega) _ _ rRecReads _ rRecWrites).mono ?_
      rintro e w1 ⟨k1, ⟨rfl, p1⟩ | ⟨rfl, p1⟩⟩
      · have b1 := below_after k1 hb
        go_wp2
        go_roundw
        case rel => exact ⟨k + 1, by go_num, by omega, by rw [Hst.out]; go_num, by rw [Hst.out]; omega, b1⟩
        case measure => simp [intOf]; omega
      · go_wp2
        go_ret
        exact ⟨below_after k1 hb, Or.inr ⟨rfl, by have := Hst.out; have := Hle.out; omega⟩⟩
    · have hlt2 : (n : Int) ≤ (k : Int) := by omega
      obtain rfl : k = n := by omega
      have ht : l.take k = l := List.take_of_length_le (by have := Hn.out; omega)
      rw [ht] at hge ⊢
      clear ht
      go_wp2
      go_ret
      exact ⟨hb, Or.inl ⟨ret_int (by omega), by omega⟩⟩

end Go.Proofs.Ytccmnffehhaobaa
