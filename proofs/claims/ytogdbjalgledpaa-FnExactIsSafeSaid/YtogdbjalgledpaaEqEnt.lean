/- Entries and logs compared: impl. -/
import Derived.Test.YtogdbjalgledpaaSameRec
import Derived.Test.YtogdbjalgledpaaData2
import Derived.Test.YtogdbjalgledpaaRowTD
import Derived.Test.YtogdbjalgledpaaLog1
namespace Go.Proofs.Ytogdbjalgledpaa
open Go.RowKit

theorem entry_eq (x y : EntryD) : pB (x = y) = (decide (x.Term = y.Term) && pB (x.Rec = y.Rec)) := by
  refine pB_eq ?_
  obtain ⟨K, V⟩ := x
  obtain ⟨K', V'⟩ := y
  simp only [EntryD.mk.injEq, Bool.and_eq_true, decide_eq_true_eq, pB_iff]

set_option maxRecDepth 100000 in
/-- impl.sameEntry -/
theorem sameEntry_any (x y : EntryD) (hx1 : x.Rec.Reads.length ≤ 1048576) (hx2 : x.Rec.Writes.length ≤ 1048576) (hy1 : y.Rec.Reads.length ≤ 1048576) (hy2 : y.Rec.Writes.length ≤ 1048576) (w : World) (ur uw vr vw : Value)
    (rr : Rd Cod.str w ur x.Rec.Reads) (rw_ : Rd Cod.write w uw x.Rec.Writes) (sr : Rd Cod.str w vr y.Rec.Reads) (sw : Rd Cod.write w vw y.Rec.Writes) :
    Calls Try.prog 117 #[.agg #[.int .i64 x.Term, .int .i64 x.Rec.Kind, .int .i64 x.Rec.Txn, .int .i64 x.Rec.Time, .int .i64 x.Rec.Lead, ur, uw, .bool x.Rec.Yes], .agg #[.int .i64 y.Term, .int .i64 y.Rec.Kind, .int .i64 y.Rec.Txn, .int .i64 y.Rec.Time, .int .i64 y.Rec.Lead, vr, vw, .bool y.Rec.Yes]] w fun e w' => e = .returned (.bool (pB (x = y))) ∧ Below w.heap.size w w' := by
  have Hc := Lib.hid (fun (W : World) (k : Below w.heap.size w W) => sameRec_any x.Rec y.Rec hx1 hx2 hy1 hy2 W ur uw vr vw (rr.below k) (rw_.below k) (sr.below k) (sw.below k))
  obtain ⟨p1, c1, rfl, -⟩ := rr.form
  obtain ⟨p2, c2, rfl, -⟩ := rw_.form
  obtain ⟨p3, c3, rfl, -⟩ := sr.form
  obtain ⟨p4, c4, rfl, -⟩ := sw.form
  have Hq := Lib.hid (entry_eq x y)
  clear rr rw_ sr sw hx1 hx2 hy1 hy2
  generalize pB (x = y) = q at *
  generalize pB (x.Rec = y.Rec) = q2 at *
  obtain ⟨T, ⟨K, X, I, L, R, W, Y⟩⟩ := x
  obtain ⟨T', ⟨K', X', I', L', R', W', Y'⟩⟩ := y
  dsimp only at *
  by_cases h : T = T'
  · have Hf : Hid (q = q2) := Lib.hid (by rw [Hq.out]; simp [h])
    clear Hq
    subst h
    go_enter Try.func117, Try.ntmps117
    go_wp2_with fail
    refine (Hc.out _ (by (repeat (first | (with_reducible exact Below.refl _ _) | (with_reducible refine below_setCell ?_ (by first | (simp; done) | (simp; omega) | omega)) | (with_reducible refine below_alloc _ ?_) | (with_reducible refine below_drewN ?_ _) | (with_reducible assumption) | (with_reducible refine below_after (by assumption) ?_))))).mono ?_
    rintro e w1 ⟨rfl, k1⟩
    go_wp2
    go_ret
    exact ⟨ret_bool (by rw [Hf.out]), by (repeat (first | (with_reducible exact Below.refl _ _) | (with_reducible refine below_setCell ?_ (by first | (simp; done) | (simp; omega) | omega)) | (with_reducible refine below_alloc _ ?_) | (with_reducible refine below_drewN ?_ _) | (with_reducible assumption) | (with_reducible refine below_after (by assumption) ?_)))⟩
  · have Hf : Hid (q = false) := Lib.hid (by rw [Hq.out]; simp [h])
    clear Hq
    go_enter Try.func117, Try.ntmps117
    go_wp2
    go_ret
    exact ⟨ret_bool (by rw [Hf.out]), by (repeat (first | (with_reducible exact Below.refl _ _) | (with_reducible refine below_setCell ?_ (by first | (simp; done) | (simp; omega) | omega)) | (with_reducible refine below_alloc _ ?_) | (with_reducible refine below_drewN ?_ _) | (with_reducible assumption) | (with_reducible refine below_after (by assumption) ?_)))⟩

set_option maxRecDepth 100000 in
set_option maxHeartbeats 1600000 in
/-- slices.EqualFunc at sameEntry -/
theorem equalFuncEntry_any (v1 v2 : Value) (l1 l2 : List EntryD) (hl1 : costEntryS l1 ≤ 1048576) (hl2 : costEntryS l2 ≤ 1048576) (w : World) (h1 : Rd Cod.entry w v1 l1) (h2 : Rd Cod.entry w v2 l2) :
    Calls Try.prog 116 #[v1, v2, .func (.func 117) #[] #[]] w fun e w' => e = .returned (.bool (pB (l1 = l2))) ∧ Below w.heap.size w w' := by
  obtain ⟨p1, c1, rfl, _, _, r1⟩ := h1.form
  obtain ⟨p2, c2, rfl, _, _, r2⟩ := h2.form
  have R1 := Lib.hid r1
  have R2 := Lib.hid r2
  have Hs1 := Lib.hid hl1
  have Hs2 := Lib.hid hl2
  clear r1 r2 h1 h2
  by_cases hlen : l1.length = l2.length
  rotate_left
  · have Hq : Hid (pB (l1 = l2) = false) := Lib.hid (pB_false fun e => hlen (by rw [e]))
    clear R1 R2
    have hne : ¬ ((l1.length : Int) = (l2.length : Int)) := by omega
    clear hl1 hl2 Hs1 Hs2
    generalize l1.length = n1 at *
    generalize l2.length = n2 at *
    go_enter Try.func116, Try.ntmps116
    go_wp2
    go_ret
    exact ⟨ret_bool (by rw [Hq.out]), Below.refl _ _⟩
  obtain ⟨n, hn⟩ : ∃ n : Nat, l1.length = n := ⟨_, rfl⟩
  have Hn1 := Lib.hid hn
  have Hn2 : Hid (l2.length = n) := Lib.hid (by omega)
  have hnb : (n : Int) ≤ 1048576 := by unfold costEntryS at hl1; omega
  rw [← hlen, hn]
  clear hn hl1 hl2 hlen
  go_enter Try.func116, Try.ntmps116
  go_wp2
  go_loopw [17] (fun i wr => ∃ k : Nat, i = .int .i64 (k : Int) ∧ k ≤ n ∧ Hid (∀ j (a : j < l1.length) (b : j < l2.length), j < k → l1[j] = l2[j]) ∧ Below w.heap.size w wr) (fun i _ => n - (intOf i).toNat)
  case atStart => exact ⟨0, rfl, Nat.zero_le _, Lib.hid (fun j _ _ h => by omega), Below.refl _ _⟩
  case round =>
    obtain ⟨k, rfl, hk, Hall, hb⟩ := hrel
    by_cases hlt : k < n
    · have hlt2 : (k : Int) < (n : Int) := by omega
      have hk1 : k < l1.length := by have := Hn1.out; omega
      have hk2 : k < l2.length := by have := Hn2.out; omega
      obtain ⟨g1, o1, rfl, hg1, hc1⟩ := R1.out (by have := Hn1.out; omega)
      obtain ⟨g2, o2, rfl, hg2, hc2⟩ := R2.out (by have := Hn2.out; omega)
      have at1 := (hc1 k hk1).below hg1 hb
      have at2 := (hc2 k hk2).below hg2 hb
      have hg1' : g1 < wr.heap.size := by have := hb.size; omega
      have hg2' : g2 < wr.heap.size := by have := hb.size; omega
      have hv1 := ent_le Hs1.out hk1
      have hv2 := ent_le Hs2.out hk2
      have Hne : Hid (pB (l1[k] = l2[k]) = false → pB (l1 = l2) = false) := Lib.hid fun h => pB_false fun e => by
        have : pB (l1[k] = l2[k]) = true := pB_true (by subst e; rfl)
        rw [h] at this
        cases this
      have Hnx : Hid (pB (l1[k] = l2[k]) = true → ∀ j (a : j < l1.length) (b : j < l2.length), j < k + 1 → l1[j] = l2[j]) := Lib.hid fun h j a b hj => by
        by_cases e : j = k
        · subst e; exact pB_iff.1 h
        · exact Hall.out j a b (by omega)
      obtain ⟨x, es⟩ : ∃ x, l1[k] = x := ⟨_, rfl⟩
      obtain ⟨y, et⟩ : ∃ y, l2[k] = y := ⟨_, rfl⟩
      rw [es] at at1 Hne Hnx hv1
      rw [et] at at2 Hne Hnx hv2
      clear hc1 hc2 es et hk1 hk2
      obtain ⟨d0, d1, d2, d3, d4, ⟨u5, d5, ru5⟩, ⟨u6, d6, ru6⟩, d7, _⟩ := at_entry at1
      obtain ⟨e0, e1, e2, e3, e4, ⟨v5, e5, rv5⟩, ⟨v6, e6, rv6⟩, e7, _⟩ := at_entry at2
      rw [show o1 + k * Cod.entry.size = o1 + k * 8 from rfl, show o2 + k * Cod.entry.size = o2 + k * 8 from rfl] at *
      obtain ⟨pu5, cu5, rfl, _⟩ := ru5.form
      obtain ⟨pu6, cu6, rfl, _⟩ := ru6.form
      obtain ⟨pv5, cv5, rfl, _⟩ := rv5.form
      obtain ⟨pv6, cv6, rfl, _⟩ := rv6.form
      clear at1 at2
      have Hc := Lib.hid (fun (W : World) r1 r2 r3 r4 => sameEntry_any x y hv1.1 hv1.2 hv2.1 hv2.2 W (.slice pu5 x.Rec.Reads.length cu5) (.slice pu6 x.Rec.Writes.length cu6) (.slice pv5 y.Rec.Reads.length cv5) (.slice pv6 y.Rec.Writes.length cv6) r1 r2 r3 r4)
      clear hv1 hv2
      generalize pB (x = y) = q at *
      cases q
      · have Hq := Lib.hid (Hne.out (by first | rfl | trivial))
        clear Hne Hnx
        go_wp2_with fail
        refine (Hc.out _ (ru5.below (by (repeat (first | (with_reducible exact Below.refl _ _) | (with_reducible refine below_setCell ?_ (by first | (simp; done) | (simp; omega) | omega)) | (with_reducible refine below_alloc _ ?_) | (with_reducible refine below_drewN ?_ _) | (with_reducible assumption) | (with_reducible refine below_after (by assumption) ?_))))) (ru6.below (by (repeat (first | (with_reducible exact Below.refl _ _) | (with_reducible refine below_setCell ?_ (by first | (simp; done) | (simp; omega) | omega)) | (with_reducible refine below_alloc _ ?_) | (with_reducible refine below_drewN ?_ _) | (with_reducible assumption) | (with_reducible refine below_after (by assumption) ?_))))) (rv5.below (by (repeat (first | (with_reducible exact Below.refl _ _) | (with_reducible refine below_setCell ?_ (by first | (simp; done) | (simp; omega) | omega)) | (with_reducible refine below_alloc _ ?_) | (with_reducible refine below_drewN ?_ _) | (with_reducible assumption) | (with_reducible refine below_after (by assumption) ?_))))) (rv6.below (by (repeat (first | (with_reducible exact Below.refl _ _) | (with_reducible refine below_setCell ?_ (by first | (simp; done) | (simp; omega) | omega)) | (with_reducible refine below_alloc _ ?_) | (with_reducible refine below_drewN ?_ _) | (with_reducible assumption) | (with_reducible refine below_after (by assumption) ?_)))))).mono ?_
        rintro e w1 ⟨rfl, kk⟩
        have b1 : Below w.heap.size w w1 := below_after kk (by (repeat (first | (with_reducible exact Below.refl _ _) | (with_reducible refine below_setCell ?_ (by first | (simp; done) | (simp; omega) | omega)) | (with_reducible refine below_alloc _ ?_) | (with_reducible refine below_drewN ?_ _) | (with_reducible assumption) | (with_reducible refine below_after (by assumption) ?_))))
        go_wp2
        go_ret
        exact ⟨ret_bool (by rw [Hq.out]), b1⟩
      · have Hq := Lib.hid (Hnx.out (by first | rfl | trivial))
        clear Hne Hnx
        go_wp2_with fail
        refine (Hc.out _ (ru5.below (by (repeat (first | (with_reducible exact Below.refl _ _) | (with_reducible refine below_setCell ?_ (by first | (simp; done) | (simp; omega) | omega)) | (with_reducible refine below_alloc _ ?_) | (with_reducible refine below_drewN ?_ _) | (with_reducible assumption) | (with_reducible refine below_after (by assumption) ?_))))) (ru6.below (by (repeat (first | (with_reducible exact Below.refl _ _) | (with_reducible refine below_setCell ?_ (by first | (simp; done) | (simp; omega) | omega)) | (with_reducible refine below_alloc _ ?_) | (with_reducible refine below_drewN ?_ _) | (with_reducible assumption) | (with_reducible refine below_after (by assumption) ?_))))) (rv5.below (by (repeat (first | (with_reducible exact Below.refl _ _) | (with_reducible refine below_setCell ?_ (by first | (simp; done) | (simp; omega) | omega)) | (with_reducible refine below_alloc _ ?_) | (with_reducible refine below_drewN ?_ _) | (with_reducible assumption) | (with_reducible refine below_after (by assumption) ?_))))) (rv6.below (by (repeat (first | (with_reducible exact Below.refl _ _) | (with_reducible refine below_setCell ?_ (by first | (simp; done) | (simp; omega) | omega)) | (with_reducible refine below_alloc _ ?_) | (with_reducible refine below_drewN ?_ _) | (with_reducible assumption) | (with_reducible refine below_after (by assumption) ?_)))))).mono ?_
        rintro e w1 ⟨rfl, kk⟩
        have b1 : Below w.heap.size w w1 := below_after kk (by (repeat (first | (with_reducible exact Below.refl _ _) | (with_reducible refine below_setCell ?_ (by first | (simp; done) | (simp; omega) | omega)) | (with_reducible refine below_alloc _ ?_) | (with_reducible refine below_drewN ?_ _) | (with_reducible assumption) | (with_reducible refine below_after (by assumption) ?_))))
        go_wp2
        go_roundw
        case rel => exact ⟨k + 1, by go_num, by omega, Hq, b1⟩
        case measure => simp [intOf]; omega
    · have hlt2 : (n : Int) ≤ (k : Int) := by omega
      obtain rfl : k = n := by omega
      have Hq : Hid (pB (l1 = l2) = true) := Lib.hid (pB_true (List.ext_getElem (by rw [Hn1.out, Hn2.out]) fun j a b => Hall.out j a b (by have := Hn1.out; omega)))
      go_wp2
      go_ret
      exact ⟨ret_bool (by rw [Hq.out]), hb⟩

/-- impl.sameEntries -/
theorem sameEntries_any (v1 v2 : Value) (l1 l2 : List EntryD) (hl1 : costEntryS l1 ≤ 1048576) (hl2 : costEntryS l2 ≤ 1048576) (w : World) (h1 : Rd Cod.entry w v1 l1) (h2 : Rd Cod.entry w v2 l2) :
    Calls Try.prog 89 #[v1, v2] w fun e w' => e = .returned (.bool (pB (l1 = l2))) ∧ Below w.heap.size w w' := by
  have Hc := Lib.hid (equalFuncEntry_any v1 v2 l1 l2 hl1 hl2 w h1 h2)
  go_enter Try.func89, Try.ntmps89
  go_wp2_with fail
  refine Hc.out.mono ?_
  rintro e w1 ⟨rfl, k1⟩
  go_wp2
  go_ret
  exact ⟨rfl, k1⟩

theorem costEntry_take (l : List EntryD) (k : Nat) : costEntryS (l.take k) ≤ costEntryS l := by
  have := sumC_le costEntry l k
  unfold costEntryS
  rw [List.length_take]
  omega

set_option maxRecDepth 100000 in
/-- impl.hasPrefix -/
theorem hasPrefix_any (v1 v2 : Value) (l1 l2 : List EntryD) (hl1 : costEntryS l1 ≤ 1048576) (hl2 : costEntryS l2 ≤ 1048576) (w : World) (h1 : Rd Cod.entry w v1 l1) (h2 : Rd Cod.entry w v2 l2) :
    Calls Try.prog 46 #[v1, v2] w fun e w' => e = .returned (.bool (pB (l2 <+: l1))) ∧ Below w.heap.size w w' := by
  obtain ⟨p1, c1, rfl, hc1, -, -⟩ := h1.form
  obtain ⟨p2, c2, rfl, -, -, -⟩ := h2.form
  by_cases hlen : l2.length ≤ l1.length
  · have Hc := Lib.hid (sameEntries_any (.slice p1 l2.length c1) (.slice p2 l2.length c2) (l1.take l2.length) l2 (Nat.le_trans (costEntry_take _ _) hl1) hl2 w (h1.take _ hlen) h2)
    have Hq : Hid (pB (l1.take l2.length = l2) = pB (l2 <+: l1)) := Lib.hid (pB_eq (by rw [pB_iff, List.prefix_iff_eq_take]; exact eq_comm))
    have hn : (l2.length : Int) ≤ (l1.length : Int) := by omega
    have hn2 : (l1.length : Int) ≤ (c1 : Int) := by omega
    have hn3 : (l1.length : Int) ≤ 1048576 := by unfold costEntryS at hl1; omega
    have hn4 : (l2.length : Int) ≤ (c1 : Int) := by omega
    clear h1 h2 hl1 hl2 hlen
    generalize pB (l1.take l2.length = l2) = q at *
    generalize l1.length = n1 at *
    generalize l2.length = n2 at *
    go_enter Try.func46, Try.ntmps46
    go_wp2_with fail
    refine Hc.out.mono ?_
    rintro e w1 ⟨rfl, k1⟩
    go_wp2
    go_ret
    exact ⟨ret_bool (by rw [Hq.out]), k1⟩
  · have Hq : Hid (pB (l2 <+: l1) = false) := Lib.hid (pB_false fun e => hlen e.length_le)
    have hn : ¬ ((l2.length : Int) ≤ (l1.length : Int)) := by omega
    clear h1 h2 hl1 hl2 hlen
    generalize l1.length = n1 at *
    generalize l2.length = n2 at *
    go_enter Try.func46, Try.ntmps46
    go_wp2
    go_ret
    exact ⟨ret_bool (by rw [Hq.out]), Below.refl _ _⟩

end Go.Proofs.Ytogdbjalgledpaa
