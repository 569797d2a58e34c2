/- Plain lemmas and contracts that all proofs of this seat lean on: bundle Logg. -/
import Derived.Test.YtfaefjdlfjhniaaRowd
import Derived.Test.YtfaefjdlfjhniaaGoodr
/- impl.isLog. Printed by mklog.py. -/
namespace Go.Proofs.Ytfaefjdlfjhniaa
open Go.RowKit

def EntAt (l : List EntryD) (term : Int) (j : Nat) : Prop := ∀ h : j < l.length, inB l[j].Term 1 term = true ∧ goodRB l[j].Rec = true ∧ ∀ m (_ : m + 1 = j), (l[m]'(by omega)).Term ≤ l[j].Term
def GoodLog (l : List EntryD) (term : Int) : Prop := l.length ≤ 60 ∧ ∀ j, j < l.length → EntAt l term j

theorem ent_le {l : List EntryD} (hl : costEntryS l ≤ 1048576) {k : Nat} (hk : k < l.length) : l[k].Rec.Reads.length ≤ 1048576 ∧ l[k].Rec.Writes.length ≤ 1048576 := by
  have h1 := sumC_get costEntry l k hk
  unfold costEntryS at hl
  have h2 : costStringS l[k].Rec.Reads ≤ costEntry l[k] ∧ costWriteS l[k].Rec.Writes ≤ costEntry l[k] := by unfold costEntry; omega
  unfold costStringS costWriteS at h2
  omega

set_option maxRecDepth 100000 in
set_option maxHeartbeats 6400000 in
/-- impl.isLog -/
theorem isLog_any (v : Value) (l : List EntryD) (term : Int) (ht : I64 term) (hl : costEntryS l ≤ 1048576) (w : World) (h : Rd Cod.entry w v l) :
    Calls Try.prog 48 #[v, .int .i64 term] w fun e w' => e = .returned (.bool (pB (GoodLog l term))) ∧ Below w.heap.size w w' := by
  obtain ⟨p, c, rfl, _, _, r⟩ := h.form
  have R := Lib.hid r
  have Hl := Lib.hid hl
  clear r h
  obtain ⟨n, hn⟩ : ∃ n : Nat, l.length = n := ⟨_, rfl⟩
  have Hn0 := Lib.hid hn
  rw [hn]
  have hnb : (n : Int) ≤ 1048576 := by unfold costEntryS at hl; omega
  obtain ⟨ht1, ht2⟩ := ht
  clear hn hl
  go_enter Try.func48, Try.ntmps48
  go_wp2
  go_loopw [9] (fun i wr => ∃ k : Nat, i = .int .i64 (k : Int) ∧ k ≤ n ∧ Hid (∀ j, j < k → EntAt l term j) ∧ Below w.heap.size w wr) (fun i _ => n - (intOf i).toNat)
  case atStart => exact ⟨0, rfl, Nat.zero_le _, Lib.hid (fun j h => by omega), Below.refl _ _⟩
  case round =>
    obtain ⟨k, rfl, hk, Hall, hb⟩ := hrel
    have hbs := hb.size
    by_cases hlt : k < n
    · have hlt2 : (k : Int) < (n : Int) := by omega
      have hkl : k < l.length := by have := Hn0.out; omega
      obtain ⟨g, o, rfl, hg, hc⟩ := R.out (by have := Hn0.out; omega)
      have at0 := (hc k hkl).below hg hb
      have hel := ent_le Hl.out hkl
      have hgl : g < wr.heap.size := by omega
      have hgl' : g < wr.heap.size + 1 := by omega
      have Hb0 : Hid (inB l[k].Term 1 term = false → pB (GoodLog l term) = false) := Lib.hid fun h => pB_false fun hr => by
        have := (hr.2 k hkl hkl).1
        rw [h] at this
        cases this
      have Hb1 : Hid (goodRB l[k].Rec = false → pB (GoodLog l term) = false) := Lib.hid fun h => pB_false fun hr => by
        have h1 := (hr.2 k hkl hkl).2.1
        rw [h1] at h
        cases h
      have Hn : Hid (inB l[k].Term 1 term = true → goodRB l[k].Rec = true → (∀ m (hm : m + 1 = k), (l[m]'(by omega)).Term ≤ l[k].Term) → ∀ j, j < k + 1 → EntAt l term j) := Lib.hid fun h1 h2 h3 j hj => by
        by_cases e : j = k
        · subst e
          exact fun _ => ⟨h1, h2, h3⟩
        · exact Hall.out j (by omega)
      by_cases hk0 : k = 0
      · have hd : decide (0 < k) = false := by simp; omega
        have Ho : Hid (∀ m (hm : m + 1 = k), (l[m]'(by omega)).Term ≤ l[k].Term) := Lib.hid fun m hm => by omega
        obtain ⟨y, es⟩ : ∃ y, l[k] = y := ⟨_, rfl⟩
        have Hn' : Hid (inB y.Term 1 term = true → goodRB y.Rec = true → ∀ j, j < k + 1 → EntAt l term j) := Lib.hid fun h1 h2 => Hn.out (by rw [es]; exact h1) (by rw [es]; exact h2) Ho.out
        rw [es] at at0 Hb0 Hb1 hel
        obtain ⟨d0, d1, d2, d3, d4, ⟨ur, d5, rr⟩, ⟨uw, d6, rw'⟩, d7, _⟩ := at_entry at0
        rw [show o + k * Cod.entry.size = o + k * 8 from rfl] at *
        obtain ⟨pr, cr, rfl, -⟩ := rr.form
        obtain ⟨pw, cw, rfl, -⟩ := rw'.form
        have Hc0 := Lib.hid (fun W => within_any y.Term 1 term W)
        have Hc1 := Lib.hid (fun (W : World) (b : Below wr.heap.size wr W) => goodRec_any y.Rec hel.1 hel.2 W _ _ (rr.below b) (rw'.below b))
        clear hc es hkl at0 hk0 hel Hn Ho rr rw'
        generalize inB y.Term 1 term = c0 at *
        generalize goodRB y.Rec = c1 at *
        cases c0
        · have Hq := Lib.hid (Hb0.out (by first | rfl | trivial))
          go_wp2_with fail
          have hx2 := fun (u : World) (b o : Nat) (h : b < wr.heap.size + 1) => ext_cell (wr.alloc (.cells #[.int .i64 y.Term, .int .i64 y.Rec.Kind, .int .i64 y.Rec.Txn, .int .i64 y.Rec.Time, .int .i64 y.Rec.Lead, .slice pr y.Rec.Reads.length cr, .slice pw y.Rec.Writes.length cw, .bool y.Rec.Yes] 61)) u b o h
          refine wp_region_ext (by kernel_rfl) (by kernel_rfl) (wr.heap.size + 1) ?_
          repeat (any_goals (go_big_quiet_step ((first | (go_at_call 45; exact calls_ext_same (Hc0.out _)) | (go_at_call 35; exact calls_ext (by first | (simp; done) | omega | (simp; omega)) (Hc1.out _ ((below_new _ _).trans ((ext_below _ _ _).mono (by simp)))))))))
          refine wpQuiet_nil ?_
          intro w2 hb2
          clear hx2
          go_wp2
          go_ret
          exact ⟨ret_bool (by rw [Hq.out]), (below_alloc _ hb).trans (hb2.mono (by omega))⟩
        cases c1
        · have Hq := Lib.hid (Hb1.out (by first | rfl | trivial))
          go_wp2_with fail
          have hx2 := fun (u : World) (b o : Nat) (h : b < wr.heap.size + 1) => ext_cell (wr.alloc (.cells #[.int .i64 y.Term, .int .i64 y.Rec.Kind, .int .i64 y.Rec.Txn, .int .i64 y.Rec.Time, .int .i64 y.Rec.Lead, .slice pr y.Rec.Reads.length cr, .slice pw y.Rec.Writes.length cw, .bool y.Rec.Yes] 61)) u b o h
          refine wp_region_ext (by kernel_rfl) (by kernel_rfl) (wr.heap.size + 1) ?_
          repeat (any_goals (go_big_quiet_step ((first | (go_at_call 45; exact calls_ext_same (Hc0.out _)) | (go_at_call 35; exact calls_ext (by first | (simp; done) | omega | (simp; omega)) (Hc1.out _ ((below_new _ _).trans ((ext_below _ _ _).mono (by simp)))))))))
          refine wpQuiet_nil ?_
          intro w2 hb2
          clear hx2
          go_wp2
          go_ret
          exact ⟨ret_bool (by rw [Hq.out]), (below_alloc _ hb).trans (hb2.mono (by omega))⟩
        have Hq := Lib.hid (Hn'.out (by first | rfl | trivial) (by first | rfl | trivial))
        go_wp2_with fail
        have hx2 := fun (u : World) (b o : Nat) (h : b < wr.heap.size + 1) => ext_cell (wr.alloc (.cells #[.int .i64 y.Term, .int .i64 y.Rec.Kind, .int .i64 y.Rec.Txn, .int .i64 y.Rec.Time, .int .i64 y.Rec.Lead, .slice pr y.Rec.Reads.length cr, .slice pw y.Rec.Writes.length cw, .bool y.Rec.Yes] 61)) u b o h
        refine wp_region_ext (by kernel_rfl) (by kernel_rfl) (wr.heap.size + 1) ?_
        repeat (any_goals (go_big_quiet_step ((first | (go_at_call 45; exact calls_ext_same (Hc0.out _)) | (go_at_call 35; exact calls_ext (by first | (simp; done) | omega | (simp; omega)) (Hc1.out _ ((below_new _ _).trans ((ext_below _ _ _).mono (by simp)))))))))
        refine wpQuiet_nil ?_
        intro w2 hb2
        clear hx2
        go_wp2
        go_roundw
        case rel => exact ⟨k + 1, by go_num, by omega, Hq, (below_alloc _ hb).trans (hb2.mono (by omega))⟩
        case measure => simp [intOf]; omega
      · obtain ⟨m, hm⟩ : ∃ m, m + 1 = k := ⟨k - 1, by omega⟩
        have hml : m < l.length := by omega
        have at1 := (hc m hml).below hg hb
        have Hbo : Hid (¬ (l[m].Term ≤ l[k].Term) → pB (GoodLog l term) = false) := Lib.hid fun h => pB_false fun hr => h ((hr.2 k hkl hkl).2.2 m hm)
        have Hlt : Hid (l[m].Term ≤ l[k].Term → ∀ m' (hm' : m' + 1 = k), (l[m']'(by omega)).Term ≤ l[k].Term) := Lib.hid fun h m' hm' => by
          obtain rfl : m' = m := by omega
          exact h
        have hd : decide (0 < k) = true := by simp; omega
        have hkm : IntKind.i64.wrap ((k : Int) - 1) = (m : Int) := by rw [IntWalk.i64_in _ (by omega)]; omega
        have hmn : (m : Int) < (n : Int) := by omega
        have hm0 : (0 : Int) ≤ (m : Int) := by omega
        obtain ⟨y, es⟩ : ∃ y, l[k] = y := ⟨_, rfl⟩
        obtain ⟨z, et⟩ : ∃ z, l[m] = z := ⟨_, rfl⟩
        have Hn' : Hid (inB y.Term 1 term = true → goodRB y.Rec = true → z.Term ≤ y.Term → ∀ j, j < k + 1 → EntAt l term j) := Lib.hid fun h1 h2 h3 => Hn.out (by rw [es]; exact h1) (by rw [es]; exact h2) (Hlt.out (by rw [es, et]; exact h3))
        rw [es] at at0 Hb0 Hb1 Hbo hel
        rw [et] at at1 Hbo
        obtain ⟨d0, d1, d2, d3, d4, ⟨ur, d5, rr⟩, ⟨uw, d6, rw'⟩, d7, _⟩ := at_entry at0
        have e0 := (at_entry at1).1
        rw [show o + k * Cod.entry.size = o + k * 8 from rfl] at *
        rw [show o + m * Cod.entry.size = o + m * 8 from rfl] at *
        obtain ⟨pr, cr, rfl, -⟩ := rr.form
        obtain ⟨pw, cw, rfl, -⟩ := rw'.form
        have Hc0 := Lib.hid (fun W => within_any y.Term 1 term W)
        have Hc1 := Lib.hid (fun (W : World) (b : Below wr.heap.size wr W) => goodRec_any y.Rec hel.1 hel.2 W _ _ (rr.below b) (rw'.below b))
        clear hc es et hkl at0 at1 hk0 hel Hn Hlt rr rw' hm hml
        generalize inB y.Term 1 term = c0 at *
        generalize goodRB y.Rec = c1 at *
        cases c0
        · have Hq := Lib.hid (Hb0.out (by first | rfl | trivial))
          go_wp2_with fail
          have hx2 := fun (u : World) (b o : Nat) (h : b < wr.heap.size + 1) => ext_cell (wr.alloc (.cells #[.int .i64 y.Term, .int .i64 y.Rec.Kind, .int .i64 y.Rec.Txn, .int .i64 y.Rec.Time, .int .i64 y.Rec.Lead, .slice pr y.Rec.Reads.length cr, .slice pw y.Rec.Writes.length cw, .bool y.Rec.Yes] 61)) u b o h
          refine wp_region_ext (by kernel_rfl) (by kernel_rfl) (wr.heap.size + 1) ?_
          repeat (any_goals (go_big_quiet_step ((first | (go_at_call 45; exact calls_ext_same (Hc0.out _)) | (go_at_call 35; exact calls_ext (by first | (simp; done) | omega | (simp; omega)) (Hc1.out _ ((below_new _ _).trans ((ext_below _ _ _).mono (by simp)))))))))
          refine wpQuiet_nil ?_
          intro w2 hb2
          clear hx2 hkm
          go_wp2
          go_ret
          exact ⟨ret_bool (by rw [Hq.out]), (below_alloc _ hb).trans (hb2.mono (by omega))⟩
        cases c1
        · have Hq := Lib.hid (Hb1.out (by first | rfl | trivial))
          go_wp2_with fail
          have hx2 := fun (u : World) (b o : Nat) (h : b < wr.heap.size + 1) => ext_cell (wr.alloc (.cells #[.int .i64 y.Term, .int .i64 y.Rec.Kind, .int .i64 y.Rec.Txn, .int .i64 y.Rec.Time, .int .i64 y.Rec.Lead, .slice pr y.Rec.Reads.length cr, .slice pw y.Rec.Writes.length cw, .bool y.Rec.Yes] 61)) u b o h
          refine wp_region_ext (by kernel_rfl) (by kernel_rfl) (wr.heap.size + 1) ?_
          repeat (any_goals (go_big_quiet_step ((first | (go_at_call 45; exact calls_ext_same (Hc0.out _)) | (go_at_call 35; exact calls_ext (by first | (simp; done) | omega | (simp; omega)) (Hc1.out _ ((below_new _ _).trans ((ext_below _ _ _).mono (by simp)))))))))
          refine wpQuiet_nil ?_
          intro w2 hb2
          clear hx2 hkm
          go_wp2
          go_ret
          exact ⟨ret_bool (by rw [Hq.out]), (below_alloc _ hb).trans (hb2.mono (by omega))⟩
        by_cases hord : z.Term ≤ y.Term
        · have hle : decide (y.Term < z.Term) = false := by simp; omega
          have Hq := Lib.hid (Hn'.out (by first | rfl | trivial) (by first | rfl | trivial) hord)
          go_wp2_with fail
          have hx2 := fun (u : World) (b o : Nat) (h : b < wr.heap.size + 1) => ext_cell (wr.alloc (.cells #[.int .i64 y.Term, .int .i64 y.Rec.Kind, .int .i64 y.Rec.Txn, .int .i64 y.Rec.Time, .int .i64 y.Rec.Lead, .slice pr y.Rec.Reads.length cr, .slice pw y.Rec.Writes.length cw, .bool y.Rec.Yes] 61)) u b o h
          refine wp_region_ext (by kernel_rfl) (by kernel_rfl) (wr.heap.size + 1) ?_
          repeat (any_goals (go_big_quiet_step ((first | (go_at_call 45; exact calls_ext_same (Hc0.out _)) | (go_at_call 35; exact calls_ext (by first | (simp; done) | omega | (simp; omega)) (Hc1.out _ ((below_new _ _).trans ((ext_below _ _ _).mono (by simp)))))))))
          refine wpQuiet_nil ?_
          intro w2 hb2
          clear hx2 hkm
          go_wp2
          go_roundw
          case rel => exact ⟨k + 1, by go_num, by omega, Hq, (below_alloc _ hb).trans (hb2.mono (by omega))⟩
          case measure => simp [intOf]; omega
        · have hle : decide (y.Term < z.Term) = true := by simp; omega
          have Hq := Lib.hid (Hbo.out hord)
          go_wp2_with fail
          have hx2 := fun (u : World) (b o : Nat) (h : b < wr.heap.size + 1) => ext_cell (wr.alloc (.cells #[.int .i64 y.Term, .int .i64 y.Rec.Kind, .int .i64 y.Rec.Txn, .int .i64 y.Rec.Time, .int .i64 y.Rec.Lead, .slice pr y.Rec.Reads.length cr, .slice pw y.Rec.Writes.length cw, .bool y.Rec.Yes] 61)) u b o h
          refine wp_region_ext (by kernel_rfl) (by kernel_rfl) (wr.heap.size + 1) ?_
          repeat (any_goals (go_big_quiet_step ((first | (go_at_call 45; exact calls_ext_same (Hc0.out _)) | (go_at_call 35; exact calls_ext (by first | (simp; done) | omega | (simp; omega)) (Hc1.out _ ((below_new _ _).trans ((ext_below _ _ _).mono (by simp)))))))))
          refine wpQuiet_nil ?_
          intro w2 hb2
          clear hx2 hkm
          go_wp2
          go_ret
          exact ⟨ret_bool (by rw [Hq.out]), (below_alloc _ hb).trans (hb2.mono (by omega))⟩
    · have hlt2 : (n : Int) ≤ (k : Int) := by omega
      obtain rfl : k = n := by omega
      have Hq : Hid (pB (GoodLog l term) = decide ((k : Int) ≤ 60)) := Lib.hid (pB_eq (by
        rw [decide_eq_true_iff]
        exact ⟨fun h => by have := h.1; have := Hn0.out; omega, fun h => ⟨by have := Hn0.out; omega, fun j hj => Hall.out j (by have := Hn0.out; omega)⟩⟩))
      by_cases h60 : (k : Int) ≤ 60
      · go_wp2
        go_ret
        exact ⟨ret_bool (by rw [Hq.out, decide_eq_true h60]; first | done | rfl | (simp; omega)), hb⟩
      · have h61 : (60 : Int) < (k : Int) := by omega
        go_wp2
        go_ret
        exact ⟨ret_bool (by rw [Hq.out, decide_eq_false (show ¬ (k : Int) ≤ 60 by omega)]; first | done | rfl | (simp; omega)), hb⟩

end Go.Proofs.Ytfaefjdlfjhniaa


/- spec.l9GoodRep. -/
namespace Go.Proofs.Ytfaefjdlfjhniaa
open Go.RowKit

/-- The term before entry k: 1 at first. -/
def PrevT (l : List EntryD) (k : Nat) (t : Int) : Prop := (k = 0 ∧ t = 1) ∨ ∃ m, ∃ h : m < l.length, m + 1 = k ∧ t = l[m].Term

theorem prev_iff {l : List EntryD} {term t : Int} {k : Nat} (hp : PrevT l k t) (hall : ∀ j, j < k → EntAt l term j) (hk : k < l.length) :
    inB l[k].Term t term = true ↔ (inB l[k].Term 1 term = true ∧ ∀ m (_ : m + 1 = k), (l[m]'(by omega)).Term ≤ l[k].Term) := by
  rw [inB_iff, inB_iff]
  rcases hp with ⟨rfl, rfl⟩ | ⟨m, hm, rfl, rfl⟩
  · exact ⟨fun h => ⟨h, fun m hm => by omega⟩, fun h => h.1⟩
  · have h1 := (inB_iff.1 (hall m (by omega) hm).1).1
    constructor
    · intro h
      exact ⟨by omega, fun m' hm' => by obtain rfl : m' = m := by omega
                                        exact h.1⟩
    · intro h
      have := h.2 m rfl
      omega

set_option maxRecDepth 100000 in
set_option maxHeartbeats 3200000 in
/-- spec.l9GoodRep -/
theorem l9GoodRep_any (x : ReplicaD) (term : Int) (ht : I64 term) (hl : costEntryS x.Log ≤ 1048576) (w : World) (u : Value) (h : Rd Cod.entry w u x.Log) :
    Calls Try.prog 62 #[.agg #[.bool x.Up, u, .int .i64 x.Sure], .int .i64 term] w fun e w' => e = .returned (.bool (pB (GoodLog x.Log term) && inB x.Sure 0 (x.Log.length : Int))) ∧ Below w.heap.size w w' := by
  obtain ⟨up, l, sure⟩ := x
  dsimp only at *
  obtain ⟨p, c, rfl, _, _, r⟩ := h.form
  have R := Lib.hid r
  have Hl := Lib.hid hl
  clear r h
  obtain ⟨n, hn⟩ : ∃ n : Nat, l.length = n := ⟨_, rfl⟩
  have Hn0 := Lib.hid hn
  rw [hn]
  have hnb : (n : Int) ≤ 1048576 := by unfold costEntryS at hl; omega
  obtain ⟨ht1, ht2⟩ := ht
  clear hn hl
  have Hs := Lib.hid (fun W => l1In_any sure 0 (n : Int) W)
  generalize inB sure 0 (n : Int) = qs at *
  by_cases h60 : (n : Int) ≤ 60
  rotate_left
  · have h61 : (60 : Int) < (n : Int) := by omega
    have Hq : Hid (pB (GoodLog l term) = false) := Lib.hid (pB_false fun hr => by have := hr.1; have := Hn0.out; omega)
    go_enter Try.func62, Try.ntmps62
    go_wp2
    go_ret
    exact ⟨ret_bool (by rw [Hq.out]; rfl), by (repeat (first | (with_reducible exact Below.refl _ _) | (with_reducible refine below_setCell ?_ (by first | (simp; done) | (simp; omega) | omega)) | (with_reducible refine below_alloc _ ?_) | (with_reducible refine below_drewN ?_ _) | (with_reducible assumption) | (with_reducible refine below_after (by assumption) ?_)))⟩
  cases qs
  · go_enter Try.func62, Try.ntmps62
    go_wp2_with fail
    refine (Hs.out _).mono ?_
    rintro e w1 ⟨rfl, rfl⟩
    go_wp2
    go_ret
    exact ⟨ret_bool (by simp), by (repeat (first | (with_reducible exact Below.refl _ _) | (with_reducible refine below_setCell ?_ (by first | (simp; done) | (simp; omega) | omega)) | (with_reducible refine below_alloc _ ?_) | (with_reducible refine below_drewN ?_ _) | (with_reducible assumption) | (with_reducible refine below_after (by assumption) ?_)))⟩
  go_enter Try.func62, Try.ntmps62
  go_wp2_with fail
  refine (Hs.out _).mono ?_
  rintro e w1 ⟨rfl, rfl⟩
  go_wp2
  go_loopw [5, 6] (fun a i wr => ∃ (k : Nat) (t : Int), i = .int .i64 (k : Int) ∧ a = .int .i64 t ∧ I64 t ∧ k ≤ n ∧ Hid (PrevT l k t) ∧ Hid (∀ j, j < k → EntAt l term j) ∧ wr.cell? ⟨w.heap.size, 1, none⟩ = some (.slice p n c) ∧ w.heap.size < wr.heap.size ∧ Below w.heap.size w wr) (fun _ i _ => n - (intOf i).toNat)
  case atStart => exact ⟨0, 1, rfl, rfl, ⟨by omega, by omega⟩, Nat.zero_le _, Lib.hid (Or.inl ⟨rfl, rfl⟩), Lib.hid (fun j h => by omega), by simp [go_sem], by simp, by (repeat (first | (with_reducible exact Below.refl _ _) | (with_reducible refine below_setCell ?_ (by first | (simp; done) | (simp; omega) | omega)) | (with_reducible refine below_alloc _ ?_) | (with_reducible refine below_drewN ?_ _) | (with_reducible assumption) | (with_reducible refine below_after (by assumption) ?_)))⟩
  case round =>
    obtain ⟨k, t, rfl, rfl, ⟨hta, htb⟩, hk, Hp, Hall, c1, hsz, hb⟩ := hrel
    by_cases hlt : k < n
    · have hlt2 : (k : Int) < (n : Int) := by omega
      have hkl : k < l.length := by have := Hn0.out; omega
      obtain ⟨g, o, rfl, hg, hc⟩ := R.out (by have := Hn0.out; omega)
      have at0 := (hc k hkl).below hg hb
      have hel := ent_le Hl.out hkl
      have hgl : g < wr.heap.size := by have := hb.size; omega
      have hiff := prev_iff Hp.out Hall.out hkl
      have Hb0 : Hid (inB l[k].Term t term = false → pB (GoodLog l term) = false) := Lib.hid fun h => pB_false fun hr => by
        have h1 := hr.2 k hkl hkl
        rw [hiff.2 ⟨h1.1, h1.2.2⟩] at h
        cases h
      have Hb1 : Hid (goodRB l[k].Rec = false → pB (GoodLog l term) = false) := Lib.hid fun h => pB_false fun hr => by
        have h1 := (hr.2 k hkl hkl).2.1
        rw [h1] at h
        cases h
      have Hn : Hid (inB l[k].Term t term = true → goodRB l[k].Rec = true → ∀ j, j < k + 1 → EntAt l term j) := Lib.hid fun h1 h2 j hj => by
        by_cases e : j = k
        · subst e
          have := hiff.1 h1
          exact fun _ => ⟨this.1, h2, this.2⟩
        · exact Hall.out j (by omega)
      have Hpn : Hid (PrevT l (k + 1) l[k].Term) := Lib.hid (Or.inr ⟨k, hkl, rfl, rfl⟩)
      clear hiff
      obtain ⟨y, es⟩ : ∃ y, l[k] = y := ⟨_, rfl⟩
      rw [es] at at0 Hb0 Hb1 hel Hn Hpn
      obtain ⟨d0, d1, d2, d3, d4, ⟨ur, d5, rr⟩, ⟨uw, d6, rw'⟩, d7, zt, _⟩ := at_entry at0
      rw [show o + k * Cod.entry.size = o + k * 8 from rfl] at *
      obtain ⟨pr, cr, rfl, -⟩ := rr.form
      obtain ⟨pw, cw, rfl, -⟩ := rw'.form
      have Hc0 := Lib.hid (fun W => l1In_any y.Term t term W)
      have Hc1 := Lib.hid (fun (W : World) (b : Below wr.heap.size wr W) => goodRecS_any y.Rec hel.1 hel.2 W _ _ (rr.below b) (rw'.below b))
      clear hc es hkl at0 hel rr rw'
      generalize inB y.Term t term = c0 at *
      generalize goodRB y.Rec = c2 at *
      cases c0
      · have Hq := Lib.hid (Hb0.out (by first | rfl | trivial))
        go_wp2_with fail
        refine (Hc0.out _).mono ?_
        rintro e w2 ⟨rfl, rfl⟩
        go_wp2
        go_ret
        exact ⟨ret_bool (by rw [Hq.out]; rfl), hb⟩
      cases c2
      · have Hq := Lib.hid (Hb1.out (by first | rfl | trivial))
        go_wp2_with fail
        refine (Hc0.out _).mono ?_
        rintro e w2 ⟨rfl, rfl⟩
        go_wp2_with fail
        refine (Hc1.out _ (by (repeat (first | (with_reducible exact Below.refl _ _) | (with_reducible refine below_setCell ?_ (by first | (simp; done) | (simp; omega) | omega)) | (with_reducible refine below_alloc _ ?_) | (with_reducible refine below_drewN ?_ _) | (with_reducible assumption) | (with_reducible refine below_after (by assumption) ?_))))).mono ?_
        rintro e w2 ⟨rfl, k2⟩
        go_wp2
        go_ret
        exact ⟨ret_bool (by rw [Hq.out]; rfl), below_after k2 hb⟩
      have Hq := Lib.hid (Hn.out (by first | rfl | trivial) (by first | rfl | trivial))
      go_wp2_with fail
      refine (Hc0.out _).mono ?_
      rintro e w2 ⟨rfl, rfl⟩
      go_wp2_with fail
      refine (Hc1.out _ (by (repeat (first | (with_reducible exact Below.refl _ _) | (with_reducible refine below_setCell ?_ (by first | (simp; done) | (simp; omega) | omega)) | (with_reducible refine below_alloc _ ?_) | (with_reducible refine below_drewN ?_ _) | (with_reducible assumption) | (with_reducible refine below_after (by assumption) ?_))))).mono ?_
      rintro e w2 ⟨rfl, k2⟩
      replace d0 := cell_step k2 d0
      replace c1 := cell_step k2 c1
      go_wp2
      go_roundw
      case rel => exact ⟨k + 1, y.Term, by go_num, rfl, zt, by omega, Hpn, Hq, c1, Nat.lt_of_lt_of_le hsz k2.size, below_after k2 hb⟩
      case measure => simp [intOf]; omega
    · have hlt2 : (n : Int) ≤ (k : Int) := by omega
      obtain rfl : k = n := by omega
      have Hq : Hid (pB (GoodLog l term) = true) := Lib.hid (pB_true ⟨by have := Hn0.out; omega, fun j hj => Hall.out j (by have := Hn0.out; omega)⟩)
      go_wp2
      go_ret
      exact ⟨ret_bool (by rw [Hq.out]; rfl), hb⟩

end Go.Proofs.Ytfaefjdlfjhniaa


/- spec.GoodGroup. -/
namespace Go.Proofs.Ytfaefjdlfjhniaa
open Go.RowKit

noncomputable def repB (term : Int) (x : ReplicaD) : Bool := pB (GoodLog x.Log term) && inB x.Sure 0 (x.Log.length : Int)
def upB (l : List ReplicaD) (lead : Int) : Bool := decide (lead < 0) || ((l[lead.toNat]?).map fun r => r.Up).getD false
def manyB (n : Nat) : Bool := !(((n : Int) != 3) && ((n : Int) != 5))
noncomputable def goodGB (l : List ReplicaD) (term lead : Int) : Bool := (((manyB l.length && inB term 0 200) && inB lead (-1) ((l.length : Int) - 1)) && l.all (repB term)) && upB l lead

theorem rep_le {l : List ReplicaD} (hl : costReplicaS l ≤ 1048576) {k : Nat} (hk : k < l.length) : costEntryS l[k].Log ≤ 1048576 := by
  have h1 := sumC_get costReplica l k hk
  unfold costReplicaS at hl
  have h2 : costEntryS l[k].Log = costReplica l[k] := rfl
  omega

set_option maxRecDepth 100000 in
set_option maxHeartbeats 3200000 in
/-- spec.GoodGroup -/
theorem goodGroupS_any (v : Value) (l : List ReplicaD) (term lead : Int) (ht : I64 term) (hd : I64 lead) (hl : costReplicaS l ≤ 1048576) (w : World) (h : Rd Cod.replica w v l) :
    Calls Try.prog 42 #[.agg #[v, .int .i64 term, .int .i64 lead]] w fun e w' => e = .returned (.bool (goodGB l term lead)) ∧ Below w.heap.size w w' := by
  obtain ⟨p, c, rfl, _, _, r⟩ := h.form
  have R := Lib.hid r
  have Hl := Lib.hid hl
  have Ht := Lib.hid ht
  clear r h
  obtain ⟨n, hn⟩ : ∃ n : Nat, l.length = n := ⟨_, rfl⟩
  have Hn0 := Lib.hid hn
  unfold goodGB
  rw [hn]
  have hnb : (n : Int) ≤ 1048576 := by unfold costReplicaS at hl; omega
  obtain ⟨ht1, ht2⟩ := ht
  obtain ⟨hd1, hd2⟩ := hd
  clear hn hl
  have H1 := Lib.hid (fun W => l1In_any term 0 200 W)
  have H2 : Hid (∀ W, Calls Try.prog 51 #[.int .i64 lead, .int .i64 (-1), .int .i64 ((n : Int) - 1)] W fun e w' => e = .returned (.bool (inB lead (-1) ((n : Int) - 1))) ∧ W = w') := Lib.hid (fun W => l1In_any lead (-1) ((n : Int) - 1) W)
  have Hin : Hid (inB lead (-1) ((n : Int) - 1) = true → lead ≤ (n : Int) - 1 ∧ -1 ≤ lead) := Lib.hid fun h => by have := inB_iff.1 h; omega
  generalize inB term 0 200 = q1 at *
  generalize inB lead (-1) ((n : Int) - 1) = q2 at *
  unfold manyB
  generalize hb3 : ((n : Int) != 3) = b3 at *
  generalize hb5 : ((n : Int) != 5) = b5 at *
  have hbad : (b3 && b5) = true ∨ (b3 && b5) = false := by cases b3 <;> cases b5 <;> simp
  rcases hbad with hbad | hbad
  · obtain ⟨rfl, rfl⟩ : b3 = true ∧ b5 = true := by simpa using hbad
    clear hbad
    go_enter Try.func42, Try.ntmps42
    go_wp2
    go_ret
    exact ⟨ret_bool (by simp), by (repeat (first | (with_reducible exact Below.refl _ _) | (with_reducible refine below_setCell ?_ (by first | (simp; done) | (simp; omega) | omega)) | (with_reducible refine below_alloc _ ?_) | (with_reducible refine below_drewN ?_ _) | (with_reducible assumption) | (with_reducible refine below_after (by assumption) ?_)))⟩
  rw [hbad]
  cases q1
  · cases b3 <;> cases b5 <;> first
      | (exfalso; simp at hbad; done)
      | (go_enter Try.func42, Try.ntmps42
         go_wp2_with fail
         refine (H1.out _).mono ?_
         rintro e w1 ⟨rfl, rfl⟩
         go_wp2
         go_ret
         exact ⟨ret_bool (by simp), by (repeat (first | (with_reducible exact Below.refl _ _) | (with_reducible refine below_setCell ?_ (by first | (simp; done) | (simp; omega) | omega)) | (with_reducible refine below_alloc _ ?_) | (with_reducible refine below_drewN ?_ _) | (with_reducible assumption) | (with_reducible refine below_after (by assumption) ?_)))⟩)
  cases q2
  · cases b3 <;> cases b5 <;> first
      | (exfalso; simp at hbad; done)
      | (go_enter Try.func42, Try.ntmps42
         go_wp2_with fail
         refine (H1.out _).mono ?_
         rintro e w1 ⟨rfl, rfl⟩
         go_wp2_with fail
         refine (H2.out _).mono ?_
         rintro e w1 ⟨rfl, rfl⟩
         go_wp2
         go_ret
         exact ⟨ret_bool (by simp), by (repeat (first | (with_reducible exact Below.refl _ _) | (with_reducible refine below_setCell ?_ (by first | (simp; done) | (simp; omega) | omega)) | (with_reducible refine below_alloc _ ?_) | (with_reducible refine below_drewN ?_ _) | (with_reducible assumption) | (with_reducible refine below_after (by assumption) ?_)))⟩)
  obtain ⟨hle1, hle2⟩ := Hin.out rfl
  have Hgoal : Hid (∀ a b : Bool, ((((!false && true) && true) && a) && b) = (a && b)) := Lib.hid fun a b => by cases a <;> cases b <;> rfl
  rw [Hgoal.out]
  cases b3 <;> cases b5 <;> first
    | (exfalso; simp at hbad; done)
    | (clear hbad
       go_enter Try.func42, Try.ntmps42
       go_wp2_with fail
       refine (H1.out _).mono ?_
       rintro e w1 ⟨rfl, rfl⟩
       go_wp2_with fail
       refine (H2.out _).mono ?_
       rintro e w1 ⟨rfl, rfl⟩
       go_wp2
       go_loopw [3] (fun i wr => ∃ k : Nat, i = .int .i64 (k : Int) ∧ k ≤ n ∧ Hid (∀ j (h : j < l.length), j < k → repB term l[j] = true) ∧ (wr.cell? ⟨w.heap.size, 0, none⟩ = some (.slice p n c) ∧ wr.cell? ⟨w.heap.size, 1, none⟩ = some (.int .i64 term) ∧ wr.cell? ⟨w.heap.size, 2, none⟩ = some (.int .i64 lead)) ∧ w.heap.size < wr.heap.size ∧ Below w.heap.size w wr) (fun i _ => n - (intOf i).toNat)
       case atStart => exact ⟨0, rfl, Nat.zero_le _, Lib.hid (fun j _ h => by omega), ⟨by simp [go_sem], by simp [go_sem], by simp [go_sem]⟩, by simp, by (repeat (first | (with_reducible exact Below.refl _ _) | (with_reducible refine below_setCell ?_ (by first | (simp; done) | (simp; omega) | omega)) | (with_reducible refine below_alloc _ ?_) | (with_reducible refine below_drewN ?_ _) | (with_reducible assumption) | (with_reducible refine below_after (by assumption) ?_)))⟩
       case round =>
         obtain ⟨k, rfl, hk, Hall, ⟨c0, c1, c2⟩, hsz, hb⟩ := hrel
         have hbs := hb.size
         by_cases hlt : k < n
         · have hlt2 : (k : Int) < (n : Int) := by omega
           have hkl : k < l.length := by have := Hn0.out; omega
           obtain ⟨g, o, rfl, hg, hc⟩ := R.out (by have := Hn0.out; omega)
           have at0 := (hc k hkl).below hg hb
           have hel := rep_le Hl.out hkl
           have hgl : g < wr.heap.size := by omega
           have Hb0 : Hid (repB term l[k] = false → l.all (repB term) = false) := Lib.hid fun h => List.all_eq_false.2 ⟨l[k], List.getElem_mem hkl, by rw [h]; simp⟩
           have Hn : Hid (repB term l[k] = true → ∀ j (h : j < l.length), j < k + 1 → repB term l[j] = true) := Lib.hid fun h j hj hjk => by
             by_cases e : j = k
             · subst e; exact h
             · exact Hall.out j hj (by omega)
           obtain ⟨y, es⟩ : ∃ y, l[k] = y := ⟨_, rfl⟩
           rw [es] at at0 Hb0 hel Hn
           obtain ⟨d0, ⟨u, d1, rr⟩, d2, _⟩ := at_replica at0
           rw [show o + k * Cod.replica.size = o + k * 3 from rfl] at *
           obtain ⟨pr, cr, rfl, -⟩ := rr.form
           have Hc : Hid (∀ W, Below wr.heap.size wr W → Calls Try.prog 62 #[.agg #[.bool y.Up, .slice pr y.Log.length cr, .int .i64 y.Sure], .int .i64 term] W fun e w' => e = .returned (.bool (repB term y)) ∧ Below W.heap.size W w') := Lib.hid fun W b => l9GoodRep_any y term Ht.out hel W _ (rr.below b)
           clear hc es hkl at0 hel rr
           generalize repB term y = q at *
           go_wp2_with fail
           have hx2 := fun (u : World) (b o : Nat) (h : b < wr.heap.size) => ext_cell wr u b o h
           refine wp_region_ext (by kernel_rfl) (by kernel_rfl) wr.heap.size ?_
           repeat (any_goals (go_big_quiet_step ((go_at_call 62; exact calls_ext (by first | (simp; done) | omega | (simp; omega)) (Hc.out _ (ext_below _ _ _))))))
           refine wpQuiet_nil ?_
           intro w2 hb2
           clear hx2
           replace c0 := cell_step hb2 c0
           replace c1 := cell_step hb2 c1
           replace c2 := cell_step hb2 c2
           cases q
           · have Hq := Lib.hid (Hb0.out (by first | rfl | trivial))
             go_wp2
             go_ret
             exact ⟨ret_bool (by rw [Hq.out]; simp), below_after hb2 hb⟩
           · have Hq := Lib.hid (Hn.out (by first | rfl | trivial))
             go_wp2
             go_roundw
             case rel => exact ⟨k + 1, by go_num, by omega, Hq, ⟨c0, c1, c2⟩, Nat.lt_of_lt_of_le hsz hb2.size, below_after hb2 hb⟩
             case measure => simp [intOf]; omega
         · have hlt2 : (n : Int) ≤ (k : Int) := by omega
           obtain rfl : k = n := by omega
           have Hq : Hid (l.all (repB term) = true) := Lib.hid (List.all_eq_true.2 fun x hx => by
             obtain ⟨j, hj, rfl⟩ := List.getElem_of_mem hx
             exact Hall.out j hj (by have := Hn0.out; omega))
           by_cases hneg : lead < 0
           · have Hu : Hid (upB l lead = true) := Lib.hid (by unfold upB; rw [decide_eq_true hneg]; rfl)
             go_wp2
             go_ret
             exact ⟨ret_bool (by rw [Hq.out, Hu.out]; first | done | rfl | simp), hb⟩
           · obtain ⟨m, rfl⟩ : ∃ m : Nat, lead = (m : Int) := ⟨lead.toNat, by omega⟩
             have hmk : (m : Int) < (k : Int) := by omega
             have hml : m < l.length := by have := Hn0.out; omega
             obtain ⟨g, o, rfl, hg, hc⟩ := R.out (by have := Hn0.out; omega)
             have at0 := (hc m hml).below hg hb
             have hgl : g < wr.heap.size := by omega
             have Hu : Hid (upB l (m : Int) = l[m].Up) := Lib.hid (by unfold upB; rw [decide_eq_false (by omega), Int.toNat_natCast, List.getElem?_eq_getElem hml]; rfl)
             obtain ⟨y, es⟩ : ∃ y, l[m] = y := ⟨_, rfl⟩
             rw [es] at at0 Hu
             obtain ⟨d0, _⟩ := at_replica at0
             rw [show o + m * Cod.replica.size = o + m * 3 from rfl] at *
             clear hc es hml at0
             have hm0 : (0 : Int) ≤ (m : Int) := by omega
             go_wp2
             go_ret
             exact ⟨ret_bool (by rw [Hq.out, Hu.out]; first | done | rfl | simp), hb⟩)

end Go.Proofs.Ytfaefjdlfjhniaa


/- impl.GoodGroup: its closure, ContainsFunc. Printed by mkgg.py. -/
namespace Go.Proofs.Ytfaefjdlfjhniaa
open Go.RowKit

noncomputable def badRep (term : Int) (x : ReplicaD) : Bool := !repB term x

set_option maxRecDepth 100000 in
/-- the closure of impl.GoodGroup -/
theorem grpCf_closure (x : ReplicaD) (term : Int) (ht : I64 term) (hl : costEntryS x.Log ≤ 1048576) (w : World) (u : Value) (r : Rd Cod.entry w u x.Log) (B : Nat) (hcB : w.cell? ⟨B, 1, none⟩ = some (.int .i64 term)) :
    Calls Try.prog 47 #[.agg #[.bool x.Up, u, .int .i64 x.Sure], .pointer (some ⟨B, 0, none⟩)] w fun e w' => e = .returned (.bool (badRep term x)) ∧ Below w.heap.size w w' := by
  have Hc := Lib.hid (fun (W : World) (b : Below w.heap.size w W) => isLog_any u x.Log term ht hl W (r.below b))
  have Hs := Lib.hid (fun W => within_any x.Sure 0 (x.Log.length : Int) W)
  have hB := World.block_lt_of_cell? _ _ hcB
  obtain ⟨p, c, rfl, -⟩ := r.form
  clear r
  unfold badRep repB
  obtain ⟨up, l, sure⟩ := x
  dsimp only at *
  generalize pB (GoodLog l term) = q1 at *
  generalize inB sure 0 (l.length : Int) = q2 at *
  generalize l.length = n at *
  cases q1
  · go_enter Try.func47, Try.ntmps47
    go_wp2_with fail
    refine (Hc.out _ (by (repeat (first | (with_reducible exact Below.refl _ _) | (with_reducible refine below_setCell ?_ (by first | (simp; done) | (simp; omega) | omega)) | (with_reducible refine below_alloc _ ?_) | (with_reducible refine below_drewN ?_ _) | (with_reducible assumption) | (with_reducible refine below_after (by assumption) ?_))))).mono ?_
    rintro e w1 ⟨rfl, k1⟩
    go_wp2
    go_ret
    exact ⟨rfl, below_after k1 (by (repeat (first | (with_reducible exact Below.refl _ _) | (with_reducible refine below_setCell ?_ (by first | (simp; done) | (simp; omega) | omega)) | (with_reducible refine below_alloc _ ?_) | (with_reducible refine below_drewN ?_ _) | (with_reducible assumption) | (with_reducible refine below_after (by assumption) ?_))))⟩
  · go_enter Try.func47, Try.ntmps47
    go_wp2_with fail
    refine (Hc.out _ (by (repeat (first | (with_reducible exact Below.refl _ _) | (with_reducible refine below_setCell ?_ (by first | (simp; done) | (simp; omega) | omega)) | (with_reducible refine below_alloc _ ?_) | (with_reducible refine below_drewN ?_ _) | (with_reducible assumption) | (with_reducible refine below_after (by assumption) ?_))))).mono ?_
    rintro e w1 ⟨rfl, k1⟩
    have g1 : w1.cell? ⟨w.heap.size, 1, none⟩ = some (.slice p n c) := by rw [(bcell k1).1 _ _ (by simp)]; simp [go_sem]
    have g2 : w1.cell? ⟨w.heap.size, 2, none⟩ = some (.int .i64 sure) := by rw [(bcell k1).1 _ _ (by simp)]; simp [go_sem]
    have b1 : Below w.heap.size w w1 := below_after k1 (by (repeat (first | (with_reducible exact Below.refl _ _) | (with_reducible refine below_setCell ?_ (by first | (simp; done) | (simp; omega) | omega)) | (with_reducible refine below_alloc _ ?_) | (with_reducible refine below_drewN ?_ _) | (with_reducible assumption) | (with_reducible refine below_after (by assumption) ?_))))
    clear k1
    go_wp2_with fail
    refine (Hs.out _).mono ?_
    rintro e w2 ⟨rfl, rfl⟩
    go_wp2
    go_ret
    exact ⟨ret_bool (by simp), b1⟩

set_option maxRecDepth 100000 in
set_option maxHeartbeats 800000 in
/-- slices.IndexFunc at the closure -/
theorem grpCf_idx (v : Value) (l : List ReplicaD) (term : Int) (ht : I64 term) (hl : l.length ≤ 1048576) (hcost : costReplicaS l ≤ 1048576) (w : World) (h : Rd Cod.replica w v l) (B : Nat) (hcB : w.cell? ⟨B, 1, none⟩ = some (.int .i64 term)) :
    Calls Try.prog 70 #[v, .func (.func 47) #[] #[.pointer (some ⟨B, 0, none⟩)]] w fun e w' => (∃ r : Int, e = .returned (.int .i64 r) ∧ ((0 ≤ r ∧ r ≤ 1048576 ∧ l.any (badRep term) = true) ∨ (r = -1 ∧ l.any (badRep term) = false))) ∧ Below w.heap.size w w' := by
  obtain ⟨p, c, rfl, _, _, r⟩ := h.form
  have R := Lib.hid r
  have HcB := Lib.hid hcB
  have hB := World.block_lt_of_cell? _ _ hcB
  have HL := Lib.hid hcost
  have Ht := Lib.hid ht
  clear r h hcB hcost ht
  obtain ⟨n, hn⟩ : ∃ n : Nat, l.length = n := ⟨_, rfl⟩
  have Hn := Lib.hid hn
  rw [hn]
  have hnb : (n : Int) ≤ 1048576 := by omega
  clear hn hl
  go_enter Try.func70, Try.ntmps70
  go_wp2
  go_loopw [5, 8] (fun _ i wr => ∃ k : Nat, i = .int .i64 (k : Int) ∧ k ≤ n ∧ Hid (∀ j (h : j < l.length), j < k → (badRep term) l[j] = false) ∧ Below w.heap.size w wr) (fun _ i _ => n - (intOf i).toNat)
  case atStart => exact ⟨0, rfl, Nat.zero_le _, Lib.hid fun j _ h => by omega, Below.refl _ _⟩
  case round =>
    obtain ⟨k, rfl, hk, Hall, hb⟩ := hrel
    by_cases hlt : k < n
    · have hlt2 : (k : Int) < (n : Int) := by omega
      have hkl : k < l.length := by have := Hn.out; omega
      obtain ⟨g, o, rfl, hg, hc⟩ := R.out (by have := Hn.out; omega)
      have at0 := (hc k hkl).below hg hb
      have Hb : Hid ((badRep term) l[k] = true → l.any (badRep term) = true) := Lib.hid fun h => List.any_eq_true.2 ⟨l[k], List.getElem_mem hkl, h⟩
      have Hnx : Hid ((badRep term) l[k] = false → ∀ j (h : j < l.length), j < k + 1 → (badRep term) l[j] = false) := Lib.hid fun h j hj hjk => by
        by_cases e : j = k
        · subst e; exact h
        · exact Hall.out j hj (by omega)
      have hel := rep_le HL.out hkl
      obtain ⟨x, es⟩ : ∃ x, l[k] = x := ⟨_, rfl⟩
      rw [es] at at0 Hb Hnx hel
      clear hc es hkl
      obtain ⟨d0, ⟨uLog, d1, rLog⟩, d2, zSure⟩ := at_replica at0
      rw [show o + k * Cod.replica.size = o + k * 3 from rfl] at *
      clear at0
      have cB := (hb.cell (p := ⟨B, 1, none⟩) hB).trans HcB.out
      obtain ⟨pr, cr, rfl, -⟩ := rLog.form
      have Hc := Lib.hid (fun (W : World) (b : Below wr.heap.size wr W) => grpCf_closure x term Ht.out hel W _ (rLog.below b) B (cell_step b cB))
      clear rLog hel cB
      generalize (badRep term) x = b at *
      cases b
      · go_wp2_with fail
        refine (Hc.out _ (by (repeat (first | (with_reducible exact Below.refl _ _) | (with_reducible refine below_setCell ?_ (by first | (simp; done) | (simp; omega) | omega)) | (with_reducible refine below_alloc _ ?_) | (with_reducible refine below_drewN ?_ _) | (with_reducible assumption) | (with_reducible refine below_after (by assumption) ?_))))).mono ?_
        rintro e w1 ⟨rfl, k1⟩
        go_wp2
        go_roundw
        case rel => exact ⟨k + 1, by go_num, by omega, Lib.hid (Hnx.out (by first | rfl | trivial)), below_after k1 hb⟩
        case measure => simp [intOf]; omega
      · have Hq := Lib.hid (Hb.out (by first | rfl | trivial))
        go_wp2_with fail
        refine (Hc.out _ (by (repeat (first | (with_reducible exact Below.refl _ _) | (with_reducible refine below_setCell ?_ (by first | (simp; done) | (simp; omega) | omega)) | (with_reducible refine below_alloc _ ?_) | (with_reducible refine below_drewN ?_ _) | (with_reducible assumption) | (with_reducible refine below_after (by assumption) ?_))))).mono ?_
        rintro e w1 ⟨rfl, k1⟩
        go_wp2
        go_ret
        exact ⟨⟨_, rfl, Or.inl ⟨by omega, by omega, Hq.out⟩⟩, below_after k1 hb⟩
    · have hlt2 : (n : Int) ≤ (k : Int) := by omega
      obtain rfl : k = n := by omega
      have Hq : Hid (l.any (badRep term) = false) := Lib.hid (List.any_eq_false.2 fun x hx => by
        obtain ⟨j, hj, rfl⟩ := List.getElem_of_mem hx
        rw [Hall.out j hj (by have := Hn.out; omega)]
        simp)
      go_wp2
      go_ret
      exact ⟨⟨_, rfl, Or.inr ⟨rfl, Hq.out⟩⟩, hb⟩

/-- slices.ContainsFunc at the closure -/
theorem grpCf_any (v : Value) (l : List ReplicaD) (term : Int) (ht : I64 term) (hl : l.length ≤ 1048576) (hcost : costReplicaS l ≤ 1048576) (w : World) (h : Rd Cod.replica w v l) (B : Nat) (hcB : w.cell? ⟨B, 1, none⟩ = some (.int .i64 term)) :
    Calls Try.prog 46 #[v, .func (.func 47) #[] #[.pointer (some ⟨B, 0, none⟩)]] w fun e w' => e = .returned (.bool (l.any (badRep term))) ∧ Below w.heap.size w w' := by
  have Hc := Lib.hid (grpCf_idx v l term ht hl hcost w h B hcB)
  clear hcB hcost
  generalize l.any (badRep term) = b at *
  go_enter Try.func46, Try.ntmps46
  go_wp2_with fail
  refine Hc.out.mono ?_
  rintro e w1 ⟨⟨r, rfl, hr⟩, k1⟩
  rcases hr with ⟨h0, h1, ha⟩ | ⟨rfl, ha⟩
  · have Ha := Lib.hid ha
    clear ha
    go_wp2
    go_ret
    exact ⟨ret_bool (by first | (rw [Ha.out]; done) | (rw [Ha.out]; simp; omega)), k1⟩
  · have Ha := Lib.hid ha
    clear ha
    go_wp2
    go_ret
    exact ⟨ret_bool (by first | (rw [Ha.out]; done) | (rw [Ha.out]; simp)), k1⟩

end Go.Proofs.Ytfaefjdlfjhniaa


/- impl.GoodGroup. -/
namespace Go.Proofs.Ytfaefjdlfjhniaa
open Go.RowKit

theorem isMany_any (n : Nat) (hn : (n : Int) ≤ 1048576) (w : World) : Calls Try.prog 24 #[.int .i64 (n : Int)] w fun e w' => e = .returned (.bool (manyB n)) ∧ w = w' := by
  have e : manyB n = (((n : Int) == 3) || ((n : Int) == 5)) := by
    unfold manyB
    simp [bne, Bool.not_and]
  rw [e]
  clear e
  generalize h3 : ((n : Int) == 3) = a at *
  generalize h5 : ((n : Int) == 5) = b at *
  cases a <;> cases b
  all_goals
    go_enter Try.func24, Try.ntmps24
    go_wp2
    go_ret
    exact ⟨rfl, rfl⟩

theorem isRep_any (p : Option Addr) (n c : Nat) (hn : (n : Int) ≤ 1048576) (t d r : Int) (w : World) : Calls Try.prog 26 #[.agg #[.slice p n c, .int .i64 t, .int .i64 d], .int .i64 r] w fun e w' => e = .returned (.bool (inB r 0 ((n : Int) - 1))) ∧ Below w.heap.size w w' := by
  have H : Hid (∀ W, Calls Try.prog 45 #[.int .i64 r, .int .i64 0, .int .i64 ((n : Int) - 1)] W fun e w' => e = .returned (.bool (inB r 0 ((n : Int) - 1))) ∧ W = w') := Lib.hid fun W => within_any r 0 ((n : Int) - 1) W
  generalize inB r 0 ((n : Int) - 1) = q at *
  go_enter Try.func26, Try.ntmps26
  go_wp2_with fail
  refine (H.out _).mono ?_
  rintro e w1 ⟨rfl, rfl⟩
  go_wp2
  go_ret
  exact ⟨rfl, by (repeat (first | (with_reducible exact Below.refl _ _) | (with_reducible refine below_setCell ?_ (by first | (simp; done) | (simp; omega) | omega)) | (with_reducible refine below_alloc _ ?_) | (with_reducible refine below_drewN ?_ _) | (with_reducible assumption) | (with_reducible refine below_after (by assumption) ?_)))⟩

theorem all_any (l : List ReplicaD) (term : Int) : l.all (repB term) = !l.any (badRep term) := by
  induction l with
  | nil => rfl
  | cons x l ih =>
    rw [List.all_cons, List.any_cons, ih]
    unfold badRep
    cases repB term x <;> rfl

set_option maxRecDepth 100000 in
set_option maxHeartbeats 3200000 in
/-- impl.GoodGroup -/
theorem goodGroup_any (v : Value) (l : List ReplicaD) (term lead : Int) (ht : I64 term) (hd : I64 lead) (hl : costReplicaS l ≤ 1048576) (w : World) (h : Rd Cod.replica w v l) :
    Calls Try.prog 23 #[.agg #[v, .int .i64 term, .int .i64 lead]] w fun e w' => e = .returned (.bool (goodGB l term lead)) ∧ Below w.heap.size w w' := by
  have hln : l.length ≤ 1048576 := by unfold costReplicaS at hl; omega
  have Hc := Lib.hid (fun (W : World) (b : Below w.heap.size w W) (B : Nat) (hcB : W.cell? ⟨B, 1, none⟩ = some (.int .i64 term)) => grpCf_any v l term ht hln hl W (h.below b) B hcB)
  obtain ⟨p, c, rfl, _, _, r⟩ := h.form
  have R := Lib.hid r
  clear r h
  unfold goodGB
  rw [all_any]
  have hnb : (l.length : Int) ≤ 1048576 := by omega
  have H1 := Lib.hid (fun W => within_any term 0 200 W)
  have Hm := Lib.hid (fun W => isMany_any l.length hnb W)
  have Hr := Lib.hid (fun W => isRep_any p l.length c hnb term lead lead W)
  obtain ⟨hd1, hd2⟩ := hd
  obtain ⟨ht1, ht2⟩ := ht
  have hway : (lead = -1 ∧ inB lead (-1) ((l.length : Int) - 1) = true ∧ upB l lead = true) ∨ (lead ≠ -1 ∧ inB lead 0 ((l.length : Int) - 1) = false ∧ inB lead (-1) ((l.length : Int) - 1) = false) ∨
      (lead ≠ -1 ∧ inB lead 0 ((l.length : Int) - 1) = true ∧ inB lead (-1) ((l.length : Int) - 1) = true ∧ ∃ m : Nat, lead = (m : Int) ∧ m < l.length ∧ ∃ x g o, upB l lead = x.Up ∧ p = some ⟨g, o, none⟩ ∧ g < w.heap.size ∧ At Cod.replica w g (o + m * Cod.replica.size) x) := by
    by_cases h1 : lead = -1
    · subst h1
      exact Or.inl ⟨rfl, inB_iff.2 ⟨by omega, by omega⟩, by unfold upB; rfl⟩
    · by_cases h2 : inB lead 0 ((l.length : Int) - 1) = true
      · have h3 := inB_iff.1 h2
        obtain ⟨m, rfl⟩ : ∃ m : Nat, lead = (m : Int) := ⟨lead.toNat, by omega⟩
        have hml : m < l.length := by omega
        obtain ⟨g, o, hp, hg, hc⟩ := R.out (by omega)
        exact Or.inr (Or.inr ⟨h1, h2, inB_iff.2 ⟨by omega, by omega⟩, m, rfl, hml, l[m], g, o, by unfold upB; rw [decide_eq_false (by omega), Int.toNat_natCast, List.getElem?_eq_getElem hml]; rfl, hp, hg, hc m hml⟩)
      · refine Or.inr (Or.inl ⟨h1, by simpa using h2, ?_⟩)
        cases hq : inB lead (-1) ((l.length : Int) - 1) with
        | false => rfl
        | true =>
          have := inB_iff.1 hq
          exact absurd (inB_iff.2 ⟨by omega, by omega⟩) h2
  clear R
  generalize manyB l.length = q0 at *
  generalize inB term 0 200 = q1 at *
  generalize l.any (badRep term) = qa at *
  cases q0
  · clear hway
    generalize l.length = n at *
    go_enter Try.func23, Try.ntmps23
    go_wp2_with fail
    refine (Hm.out _).mono ?_
    rintro e w1 ⟨rfl, rfl⟩
    go_wp2
    go_ret
    exact ⟨ret_bool (by simp), by (repeat (first | (with_reducible exact Below.refl _ _) | (with_reducible refine below_setCell ?_ (by first | (simp; done) | (simp; omega) | omega)) | (with_reducible refine below_alloc _ ?_) | (with_reducible refine below_drewN ?_ _) | (with_reducible assumption) | (with_reducible refine below_after (by assumption) ?_)))⟩
  cases q1
  · clear hway
    generalize l.length = n at *
    go_enter Try.func23, Try.ntmps23
    go_wp2_with fail
    refine (Hm.out _).mono ?_
    rintro e w1 ⟨rfl, rfl⟩
    go_wp2_with fail
    refine (H1.out _).mono ?_
    rintro e w1 ⟨rfl, rfl⟩
    go_wp2
    go_ret
    exact ⟨ret_bool (by simp), by (repeat (first | (with_reducible exact Below.refl _ _) | (with_reducible refine below_setCell ?_ (by first | (simp; done) | (simp; omega) | omega)) | (with_reducible refine below_alloc _ ?_) | (with_reducible refine below_drewN ?_ _) | (with_reducible assumption) | (with_reducible refine below_after (by assumption) ?_)))⟩
  rcases hway with ⟨rfl, e1, e2⟩ | ⟨hne, e1, e2⟩ | ⟨hne, e1, e2, m, rfl, hml, x, g, o, e3, rfl, hg, at0⟩
  · have Hq : Hid ((((true && true) && inB (-1) (-1) ((l.length : Int) - 1)) && !qa && upB l (-1)) = !qa) := Lib.hid (by rw [e1, e2]; cases qa <;> rfl)
    rw [Hq.out]
    clear e1 e2 Hq
    generalize l.length = n at *
    go_enter Try.func23, Try.ntmps23
    go_wp2_with fail
    refine (Hm.out _).mono ?_
    rintro e w1 ⟨rfl, rfl⟩
    go_wp2_with fail
    refine (H1.out _).mono ?_
    rintro e w1 ⟨rfl, rfl⟩
    go_wp2_with fail
    refine (Hc.out _ (by (repeat (first | (with_reducible exact Below.refl _ _) | (with_reducible refine below_setCell ?_ (by first | (simp; done) | (simp; omega) | omega)) | (with_reducible refine below_alloc _ ?_) | (with_reducible refine below_drewN ?_ _) | (with_reducible assumption) | (with_reducible refine below_after (by assumption) ?_)))) _ (by simp [go_sem])).mono ?_
    rintro e w1 ⟨rfl, k1⟩
    go_wp2
    go_ret
    exact ⟨rfl, below_after k1 (by (repeat (first | (with_reducible exact Below.refl _ _) | (with_reducible refine below_setCell ?_ (by first | (simp; done) | (simp; omega) | omega)) | (with_reducible refine below_alloc _ ?_) | (with_reducible refine below_drewN ?_ _) | (with_reducible assumption) | (with_reducible refine below_after (by assumption) ?_))))⟩
  · have Hq : Hid ((((true && true) && inB lead (-1) ((l.length : Int) - 1)) && !qa && upB l lead) = false) := Lib.hid (by rw [e2]; cases qa <;> rfl)
    rw [Hq.out]
    rw [e1] at Hr
    clear e1 e2 Hq
    have hb1 : (lead != -1) = true := by simpa using hne
    clear hne
    generalize l.length = n at *
    go_enter Try.func23, Try.ntmps23
    go_wp2_with fail
    refine (Hm.out _).mono ?_
    rintro e w1 ⟨rfl, rfl⟩
    go_wp2_with fail
    refine (H1.out _).mono ?_
    rintro e w1 ⟨rfl, rfl⟩
    go_wp2_with fail
    refine (Hr.out _).mono ?_
    rintro e w1 ⟨rfl, k1⟩
    go_wp2
    go_ret
    exact ⟨rfl, below_after k1 (by (repeat (first | (with_reducible exact Below.refl _ _) | (with_reducible refine below_setCell ?_ (by first | (simp; done) | (simp; omega) | omega)) | (with_reducible refine below_alloc _ ?_) | (with_reducible refine below_drewN ?_ _) | (with_reducible assumption) | (with_reducible refine below_after (by assumption) ?_))))⟩
  · have Hq : Hid ((((true && true) && inB (m : Int) (-1) ((l.length : Int) - 1)) && !qa && upB l (m : Int)) = (!qa && x.Up)) := Lib.hid (by rw [e2, e3]; cases qa <;> rfl)
    rw [Hq.out]
    rw [e1] at Hr
    clear e1 e2 e3 Hq
    have hb1 : ((m : Int) != -1) = true := by simp
    have hmI : (m : Int) < (l.length : Int) := by omega
    have hm0 : (0 : Int) ≤ (m : Int) := by omega
    clear hne hml
    obtain ⟨d0, _⟩ := at_replica at0
    rw [show o + m * Cod.replica.size = o + m * 3 from rfl] at *
    clear at0
    generalize x.Up = up at *
    generalize l.length = n at *
    cases up
    all_goals
      go_enter Try.func23, Try.ntmps23
      go_wp2_with fail
      refine (Hm.out _).mono ?_
      rintro e w1 ⟨rfl, rfl⟩
      go_wp2_with fail
      refine (H1.out _).mono ?_
      rintro e w1 ⟨rfl, rfl⟩
      go_wp2_with fail
      refine (Hr.out _).mono ?_
      rintro e w1 ⟨rfl, k1⟩
      have g0 : w1.cell? ⟨w.heap.size, 0, none⟩ = some (.slice (some ⟨g, o, none⟩) n c) := by rw [(bcell k1).1 _ _ (by simp)]; simp [go_sem]
      have g1 : w1.cell? ⟨w.heap.size, 1, none⟩ = some (.int .i64 term) := by rw [(bcell k1).1 _ _ (by simp)]; simp [go_sem]
      have g2 : w1.cell? ⟨w.heap.size, 2, none⟩ = some (.int .i64 (m : Int)) := by rw [(bcell k1).1 _ _ (by simp)]; simp [go_sem]
      have b1 : Below w.heap.size w w1 := below_after k1 (by (repeat (first | (with_reducible exact Below.refl _ _) | (with_reducible refine below_setCell ?_ (by first | (simp; done) | (simp; omega) | omega)) | (with_reducible refine below_alloc _ ?_) | (with_reducible refine below_drewN ?_ _) | (with_reducible assumption) | (with_reducible refine below_after (by assumption) ?_))))
      replace d0 := cell_step b1 d0
      clear k1
      first
        | (go_wp2
           go_ret
           exact ⟨ret_bool (by simp), b1⟩)
        | (go_wp2_with fail
           refine (Hc.out _ b1 _ g1).mono ?_
           rintro e w2 ⟨rfl, k2⟩
           go_wp2
           go_ret
           exact ⟨ret_bool (by simp), below_after k2 b1⟩)

end Go.Proofs.Ytfaefjdlfjhniaa


/- Groups as plain data: what keeps them safe. Plain law; no program. -/
namespace Go.Proofs.Ytfaefjdlfjhniaa
open Go.RowKit

/-- The term of the last entry. -/
def lastT (l : List EntryD) : Int := match l.getLast? with
  | some e => e.Term
  | none => 0
theorem lastT_nil : lastT [] = 0 := rfl
theorem lastT_snoc (l : List EntryD) (e : EntryD) : lastT (l ++ [e]) = e.Term := by unfold lastT; simp
theorem lastT_get {l : List EntryD} {n : Nat} (h : l.length = n + 1) : lastT l = (l[n]'(by omega)).Term := by
  have : l.getLast? = some (l[n]'(by omega)) := by rw [List.getLast?_eq_getElem?, List.getElem?_eq_getElem (by omega)]; congr 2; omega
  unfold lastT
  rw [this]

theorem good_mono {l : List EntryD} {t : Int} (h : GoodLog l t) : ∀ (j i : Nat) (hj : j < l.length) (hi : i ≤ j), (l[i]'(by omega)).Term ≤ l[j].Term
  | 0, i, hj, hi => by
    obtain rfl : i = 0 := by omega
    exact Int.le_refl _
  | j + 1, i, hj, hi => by
    by_cases e : i = j + 1
    · subst e; exact Int.le_refl _
    · exact Int.le_trans (good_mono h j i (by omega) (by omega)) ((h.2 (j + 1) hj hj).2.2 j rfl)

theorem good_last {l : List EntryD} {t : Int} (h : GoodLog l t) (ht : 0 ≤ t) : 0 ≤ lastT l ∧ lastT l ≤ t ∧ (l ≠ [] → 1 ≤ lastT l) := by
  rcases Nat.eq_zero_or_pos l.length with h0 | h0
  · obtain rfl := List.eq_nil_of_length_eq_zero h0
    exact ⟨Int.le_refl _, ht, fun h => absurd rfl h⟩
  · obtain ⟨n, hn⟩ : ∃ n, l.length = n + 1 := ⟨l.length - 1, by omega⟩
    rw [lastT_get hn]
    have := inB_iff.1 (h.2 n (by omega) (by omega)).1
    exact ⟨by omega, by omega, fun _ => by omega⟩

theorem last_prefix {a l : List EntryD} {t : Int} (h : GoodLog l t) (ht : 0 ≤ t) (k : a <+: l) : lastT a ≤ lastT l := by
  rcases Nat.eq_zero_or_pos a.length with h0 | h0
  · obtain rfl := List.eq_nil_of_length_eq_zero h0
    exact (good_last h ht).1
  · obtain ⟨n, hn⟩ : ∃ n, a.length = n + 1 := ⟨a.length - 1, by omega⟩
    have hl := k.length_le
    obtain ⟨m, hm⟩ : ∃ m, l.length = m + 1 := ⟨l.length - 1, by omega⟩
    rw [lastT_get hn, lastT_get hm]
    have e : (a[n]'(by omega)) = (l[n]'(by omega)) := by
      obtain ⟨s, rfl⟩ := k
      rw [List.getElem_append_left]
    rw [e]
    exact good_mono h m n (by omega) (by omega)

theorem good_prefix {a l : List EntryD} {t : Int} (h : GoodLog l t) (k : a <+: l) : GoodLog a t := by
  have hl := k.length_le
  obtain ⟨s, rfl⟩ := k
  refine ⟨by have := h.1; omega, fun j hj _ => ?_⟩
  have h1 := h.2 j (by omega) (by omega)
  rw [List.getElem_append_left hj] at h1
  refine ⟨h1.1, h1.2.1, fun m hm => ?_⟩
  have h2 := h1.2.2 m hm
  rw [List.getElem_append_left (by omega)] at h2
  exact h2

theorem good_up {l : List EntryD} {t u : Int} (h : GoodLog l t) (k : t ≤ u) : GoodLog l u :=
  ⟨h.1, fun j hj hj' => ⟨inB_iff.2 (by have := inB_iff.1 (h.2 j hj hj').1; omega), (h.2 j hj hj').2⟩⟩

theorem good_snoc {l : List EntryD} {t : Int} (h : GoodLog l t) (ht : 1 ≤ t) (hl : l.length < 60) (e : EntryD) (he : e.Term = t) (hr : goodRB e.Rec = true) : GoodLog (l ++ [e]) t := by
  refine ⟨by simp; omega, fun j hj hj' => ?_⟩
  rw [List.length_append, List.length_singleton] at hj
  by_cases e1 : j < l.length
  · rw [List.getElem_append_left e1]
    have h1 := h.2 j e1 e1
    refine ⟨h1.1, h1.2.1, fun m hm => ?_⟩
    rw [List.getElem_append_left (by omega)]
    exact h1.2.2 m hm
  · obtain rfl : j = l.length := by omega
    rw [List.getElem_append_right (Nat.le_refl _)]
    simp only [Nat.sub_self, List.getElem_cons_zero]
    refine ⟨inB_iff.2 (by omega), hr, fun m hm => ?_⟩
    rw [List.getElem_append_left (by omega), he]
    exact (inB_iff.1 (h.2 m (by omega) (by omega)).1).2

/-- Two that are more than half meet. -/
theorem majority {α : Type} {l : List α} (p q : α → Bool) (hp : l.length < 2 * l.countP p) (hq : l.length < 2 * l.countP q) : ∃ x ∈ l, p x = true ∧ q x = true := by
  have h : ∀ l : List α, l.countP p + l.countP q ≤ l.length + l.countP (fun x => p x && q x) := by
    intro l
    induction l with
    | nil => simp
    | cons a l ih => cases hp : p a <;> cases hq : q a <;> simp [hp, hq] <;> omega
  have h1 := h l
  obtain ⟨x, hx, hpq⟩ := List.countP_pos_iff.1 (show 0 < l.countP (fun x => p x && q x) by omega)
  exact ⟨x, hx, by simpa using hpq⟩

theorem prefix_total {α : Type} {a b l : List α} (h : a <+: l) (k : b <+: l) : a <+: b ∨ b <+: a := by
  rcases Nat.le_total a.length b.length with e | e
  · exact Or.inl (List.prefix_of_prefix_length_le h k e)
  · exact Or.inr (List.prefix_of_prefix_length_le k h e)

noncomputable def goodG (g : GroupD) : Bool := goodGB g.Reps g.Term g.Lead

theorem many_iff {n : Nat} : manyB n = true ↔ n = 3 ∨ n = 5 := by
  unfold manyB
  simp only [bne, Bool.not_and, Bool.not_not, Bool.or_eq_true, beq_iff_eq]
  omega

theorem goodG_iff {g : GroupD} : goodG g = true ↔ (g.Reps.length = 3 ∨ g.Reps.length = 5) ∧ (0 ≤ g.Term ∧ g.Term ≤ 200) ∧ (∀ x ∈ g.Reps, GoodLog x.Log g.Term ∧ 0 ≤ x.Sure ∧ x.Sure ≤ x.Log.length) ∧
    (g.Lead = -1 ∨ ∃ (L : Nat) (x : ReplicaD), g.Lead = L ∧ g.Reps[L]? = some x ∧ x.Up = true) := by
  unfold goodG goodGB
  simp only [Bool.and_eq_true, many_iff, inB_iff, List.all_eq_true, repB, pB_iff]
  constructor
  · rintro ⟨⟨⟨⟨h1, h2⟩, h3⟩, h4⟩, h5⟩
    refine ⟨h1, h2, h4, ?_⟩
    by_cases h : g.Lead < 0
    · left; omega
    · right
      refine ⟨g.Lead.toNat, g.Reps[g.Lead.toNat]'(by omega), by omega, List.getElem?_eq_getElem _, ?_⟩
      unfold upB at h5
      rw [List.getElem?_eq_getElem (by omega), decide_eq_false h] at h5
      simpa using h5
  · rintro ⟨h1, h2, h4, h5⟩
    rcases h5 with h5 | ⟨L, x, h5, h6, h7⟩
    · refine ⟨⟨⟨⟨h1, h2⟩, by omega⟩, h4⟩, ?_⟩
      unfold upB
      rw [decide_eq_true (by omega)]
      rfl
    · have hL := (List.getElem?_eq_some_iff.1 h6).1
      refine ⟨⟨⟨⟨h1, h2⟩, by omega⟩, h4⟩, ?_⟩
      unfold upB
      rw [h5, Int.toNat_natCast, h6]
      simp [h7]

/-- What a group keeps: C is what is committed. -/
structure Inv (g : GroupD) (C : List EntryD) : Prop where
  good : goodG g = true
  cmp : ∀ x ∈ g.Reps, ∀ y ∈ g.Reps, lastT x.Log = lastT y.Log → x.Log <+: y.Log ∨ y.Log <+: x.Log
  lead : ∀ (L : Nat) x, g.Lead = (L : Int) → g.Reps[L]? = some x → 1 ≤ g.Term ∧ (∀ y ∈ g.Reps, lastT y.Log = g.Term → y.Log <+: x.Log) ∧ C <+: x.Log
  most : g.Reps.length < 2 * g.Reps.countP (fun x => pB (C <+: x.Log))
  late : ∀ x ∈ g.Reps, lastT C < lastT x.Log → C <+: x.Log
  sure : ∀ x ∈ g.Reps, x.Log.take x.Sure.toNat <+: C

theorem mem_set {α : Type} {l : List α} {i : Nat} {a x : α} (h : x ∈ l.set i a) : x ∈ l ∨ x = a := by
  rcases List.mem_or_eq_of_mem_set h with h | h
  · exact Or.inl h
  · exact Or.inr h

/-- A replica turned: its log and what is sure are as they were. -/
theorem countP_same {l : List ReplicaD} {i : Nat} {x y : ReplicaD} (p : List EntryD → Bool) (h : l[i]? = some x) (e : y.Log = x.Log) : (l.set i y).countP (fun z => p z.Log) = l.countP (fun z => p z.Log) := by
  have hi := (List.getElem?_eq_some_iff.1 h).1
  rw [List.countP_set hi]
  obtain ⟨_, hx⟩ := List.getElem?_eq_some_iff.1 h
  rw [hx, e]
  cases hp : p x.Log
  · simp
  · have : 0 < l.countP (fun z => p z.Log) := List.countP_pos_iff.2 ⟨x, List.mem_of_getElem? h, hp⟩
    simp
    omega

/-- A replica goes up or down; a leader may be lost. -/
theorem Inv.turn {g : GroupD} {C : List EntryD} (h : Inv g C) {r : Nat} {x : ReplicaD} (hx : g.Reps[r]? = some x) (up : Bool) (d : Int) (hd : d = -1 ∨ (d = g.Lead ∧ (d = (r : Int) → up = true))) :
    Inv ⟨g.Reps.set r { x with Up := up }, g.Term, d⟩ C := by
  have hxm := List.mem_of_getElem? hx
  have hr := (List.getElem?_eq_some_iff.1 hx).1
  have hlog : ∀ y ∈ g.Reps.set r { x with Up := up }, ∃ z ∈ g.Reps, z.Log = y.Log ∧ z.Sure = y.Sure := fun y hy => by
    rcases mem_set hy with hy | rfl
    · exact ⟨y, hy, rfl, rfl⟩
    · exact ⟨x, hxm, rfl, rfl⟩
  obtain ⟨g1, g2, g3, g4⟩ := goodG_iff.1 h.good
  refine ⟨goodG_iff.2 ⟨by simpa using g1, g2, fun y hy => ?_, ?_⟩, fun y hy z hz => ?_, fun L y hL hy => ?_, ?_, fun y hy => ?_, fun y hy => ?_⟩
  · obtain ⟨z, hz, e1, e2⟩ := hlog y hy
    rw [← e1, ← e2]
    exact g3 z hz
  · rcases hd with hd | ⟨hd, hup⟩
    · exact Or.inl hd
    · rcases g4 with g4 | ⟨L, y, g4, g5, g6⟩
      · exact Or.inl (hd.trans g4)
      · right
        by_cases e : L = r
        · subst e
          exact ⟨L, { x with Up := up }, hd.trans g4, by simp [hr], hup (hd.trans g4)⟩
        · exact ⟨L, y, hd.trans g4, by simp only [List.getElem?_set_ne (Ne.symm e)]; exact g5, g6⟩
  · obtain ⟨y', hy', e1, _⟩ := hlog y hy
    obtain ⟨z', hz', e2, _⟩ := hlog z hz
    rw [← e1, ← e2]
    exact h.cmp y' hy' z' hz'
  · dsimp only at hL hy ⊢
    have hgl : g.Lead = (L : Int) := by
      rcases hd with hd | ⟨hd, _⟩ <;> omega
    have hy' : ∃ y', g.Reps[L]? = some y' ∧ y'.Log = y.Log := by
      by_cases e : L = r
      · subst e
        rw [List.getElem?_set_self hr] at hy
        injection hy with hy
        exact ⟨x, hx, by rw [← hy]⟩
      · rw [List.getElem?_set_ne (Ne.symm e)] at hy
        exact ⟨y, hy, rfl⟩
    obtain ⟨y', hy1, hy2⟩ := hy'
    obtain ⟨k1, k2, k3⟩ := h.lead L y' hgl hy1
    rw [← hy2]
    refine ⟨k1, fun z hz => ?_, k3⟩
    obtain ⟨z', hz', e2, _⟩ := hlog z hz
    rw [← e2]
    exact k2 z' hz'
  · have := h.most
    dsimp only
    rw [List.length_set]
    rw [countP_same (y := { x with Up := up }) (fun l => pB (C <+: l)) hx rfl]
    exact this
  · obtain ⟨z, hz, e1, _⟩ := hlog y hy
    rw [← e1]
    exact h.late z hz
  · obtain ⟨z, hz, e1, e2⟩ := hlog y hy
    rw [← e1, ← e2]
    exact h.sure z hz

/-- Whether a log is later than another one. -/
def newerB (a b : List EntryD) : Bool := decide (lastT b < lastT a) || (decide (lastT a = lastT b) && decide (b.length < a.length))

/-- A leader is elected. -/
theorem Inv.elect {g : GroupD} {C : List EntryD} (h : Inv g C) {r : Nat} {x : ReplicaD} (hx : g.Reps[r]? = some x) (hup : x.Up = true) (ht : g.Term ≠ 200)
    (hv : g.Reps.length < 2 * g.Reps.countP (fun y => y.Up && !newerB y.Log x.Log)) : Inv ⟨g.Reps, g.Term + 1, (r : Int)⟩ C := by
  have hxm := List.mem_of_getElem? hx
  obtain ⟨g1, g2, g3, g4⟩ := goodG_iff.1 h.good
  refine ⟨goodG_iff.2 ⟨g1, ⟨by show 0 ≤ g.Term + 1; omega, by show g.Term + 1 ≤ 200; omega⟩, fun y hy => ⟨good_up (g3 y hy).1 (by show g.Term ≤ g.Term + 1; omega), (g3 y hy).2⟩, Or.inr ⟨r, x, rfl, hx, hup⟩⟩, h.cmp, fun L y hL hy => ?_, h.most, h.late, h.sure⟩
  dsimp only at hL hy ⊢
  obtain rfl : L = r := by omega
  rw [hx] at hy
  injection hy with hy
  subst hy
  refine ⟨by omega, fun y hy he => ?_, ?_⟩
  · have := (good_last (g3 y hy).1 g2.1).2.1
    omega
  · obtain ⟨m, hm, hc, hn⟩ := majority _ _ h.most hv
    have hc := pB_iff.1 hc
    rw [Bool.and_eq_true, Bool.not_eq_true'] at hn
    have hn := hn.2
    unfold newerB at hn
    rw [Bool.or_eq_false_iff, Bool.and_eq_false_iff, decide_eq_false_iff_not, decide_eq_false_iff_not, decide_eq_false_iff_not] at hn
    have h1 := last_prefix (g3 m hm).1 g2.1 hc
    by_cases e : lastT C < lastT x.Log
    · exact h.late x hxm e
    · have e2 : lastT m.Log = lastT x.Log := by omega
      rcases h.cmp m hm x hxm e2 with k | k
      · exact hc.trans k
      · have : m.Log.length ≤ x.Log.length := by
          rcases hn.2 with hn2 | hn2 <;> omega
        have := k.eq_of_length_le this
        rw [this]
        exact hc

/-- The leader gets an entry. -/
theorem Inv.put {g : GroupD} {C : List EntryD} (h : Inv g C) {L : Nat} {x : ReplicaD} (hL : g.Lead = (L : Int)) (hx : g.Reps[L]? = some x) (hl : x.Log.length < 60) (e : EntryD) (he : e.Term = g.Term) (hr : goodRB e.Rec = true) :
    Inv ⟨g.Reps.set L { x with Log := x.Log ++ [e] }, g.Term, g.Lead⟩ C := by
  have hxm := List.mem_of_getElem? hx
  have hLl := (List.getElem?_eq_some_iff.1 hx).1
  obtain ⟨g1, g2, g3, g4⟩ := goodG_iff.1 h.good
  obtain ⟨k1, k2, k3⟩ := h.lead L x hL hx
  have hup : x.Up = true := by
    rcases g4 with g4 | ⟨L', x', g4, g5, g6⟩
    · omega
    · obtain rfl : L' = L := by omega
      rw [hx] at g5
      injection g5 with g5
      rw [g5]; exact g6
  have hlast : lastT (x.Log ++ [e]) = g.Term := by rw [lastT_snoc, he]
  have hCx : C <+: x.Log ++ [e] := k3.trans (List.prefix_append _ _)
  refine ⟨goodG_iff.2 ⟨by simpa using g1, g2, fun y hy => ?_, Or.inr ⟨L, _, hL, List.getElem?_set_self hLl, hup⟩⟩, fun y hy z hz => ?_, fun L' y hL' hy => ?_, ?_, fun y hy => ?_, fun y hy => ?_⟩
  · rcases mem_set hy with hy | rfl
    · exact g3 y hy
    · have := g3 x hxm
      exact ⟨good_snoc this.1 k1 hl e he hr, this.2.1, by simp; omega⟩
  · have key : ∀ y ∈ g.Reps, lastT y.Log = g.Term → y.Log <+: x.Log ++ [e] := fun y hy hy2 => (k2 y hy hy2).trans (List.prefix_append _ _)
    rcases mem_set hy with hy | rfl <;> rcases mem_set hz with hz | rfl
    · exact h.cmp y hy z hz
    · dsimp only
      rw [hlast]
      exact fun e => Or.inl (key y hy e)
    · dsimp only
      rw [hlast]
      exact fun e => Or.inr (key z hz e.symm)
    · exact fun _ => Or.inl (List.prefix_refl _)
  · dsimp only at hL' hy ⊢
    obtain rfl : L' = L := by omega
    rw [List.getElem?_set_self hLl] at hy
    injection hy with hy
    subst hy
    refine ⟨k1, fun y hy => ?_, hCx⟩
    rcases mem_set hy with hy | rfl
    · exact fun e1 => (k2 y hy e1).trans (List.prefix_append _ _)
    · exact fun _ => List.prefix_refl _
  · have := h.most
    dsimp only
    rw [List.length_set, List.countP_set hLl]
    obtain ⟨_, hx'⟩ := List.getElem?_eq_some_iff.1 hx
    rw [hx', pB_true k3, pB_true hCx]
    have : 0 < g.Reps.countP (fun x => pB (C <+: x.Log)) := List.countP_pos_iff.2 ⟨x, hxm, pB_true k3⟩
    simp
    omega
  · rcases mem_set hy with hy | rfl
    · exact h.late y hy
    · exact fun _ => hCx
  · rcases mem_set hy with hy | rfl
    · exact h.sure y hy
    · have := h.sure x hxm
      dsimp only
      rw [List.take_append_of_le_length (by have := (g3 x hxm).2; omega)]
      exact this

/-- A replica gets the leader's log. -/
theorem Inv.copy {g : GroupD} {C : List EntryD} (h : Inv g C) {L r : Nat} {x y : ReplicaD} (hL : g.Lead = (L : Int)) (hx : g.Reps[L]? = some x) (hy : g.Reps[r]? = some y) (hne : r ≠ L) :
    Inv ⟨g.Reps.set r ⟨true, x.Log, min (max x.Sure y.Sure) x.Log.length⟩, g.Term, g.Lead⟩ C := by
  have hxm := List.mem_of_getElem? hx
  have hym := List.mem_of_getElem? hy
  have hrl := (List.getElem?_eq_some_iff.1 hy).1
  obtain ⟨g1, g2, g3, g4⟩ := goodG_iff.1 h.good
  obtain ⟨k1, k2, k3⟩ := h.lead L x hL hx
  have hlog : ∀ z ∈ g.Reps.set r ⟨true, x.Log, min (max x.Sure y.Sure) x.Log.length⟩, ∃ z' ∈ g.Reps, z'.Log = z.Log := fun z hz => by
    rcases mem_set hz with hz | rfl
    · exact ⟨z, hz, rfl⟩
    · exact ⟨x, hxm, rfl⟩
  refine ⟨goodG_iff.2 ⟨by simpa using g1, g2, fun z hz => ?_, ?_⟩, fun y hy z hz => ?_, fun L' z hL' hz => ?_, ?_, fun y hy => ?_, fun z hz => ?_⟩
  · rcases mem_set hz with hz | rfl
    · exact g3 z hz
    · have h1 := g3 x hxm
      have h2 := g3 y hym
      exact ⟨h1.1, by dsimp only; omega, by dsimp only; omega⟩
  · rcases g4 with g4 | ⟨L', x', g4, g5, g6⟩
    · exact Or.inl g4
    · exact Or.inr ⟨L', x', g4, by rw [List.getElem?_set_ne (by omega)]; exact g5, g6⟩
  · obtain ⟨y', hy', e1⟩ := hlog y hy
    obtain ⟨z', hz', e2⟩ := hlog z hz
    rw [← e1, ← e2]
    exact h.cmp y' hy' z' hz'
  · dsimp only at hL' hz ⊢
    obtain rfl : L' = L := by omega
    rw [List.getElem?_set_ne hne, hx] at hz
    injection hz with hz
    subst hz
    refine ⟨k1, fun u hu => ?_, k3⟩
    obtain ⟨u', hu', e2⟩ := hlog u hu
    rw [← e2]
    exact k2 u' hu'
  · have := h.most
    dsimp only
    rw [List.length_set, List.countP_set hrl]
    obtain ⟨_, hy'⟩ := List.getElem?_eq_some_iff.1 hy
    rw [hy', pB_true k3]
    have : pB (C <+: y.Log) = true → 0 < g.Reps.countP (fun x => pB (C <+: x.Log)) := fun h => List.countP_pos_iff.2 ⟨y, hym, h⟩
    cases hq : pB (C <+: y.Log)
    · simp; omega
    · have := this hq
      simp; omega
  · obtain ⟨z, hz, e1⟩ := hlog y hy
    rw [← e1]
    exact h.late z hz
  · rcases mem_set hz with hz | rfl
    · exact h.sure z hz
    · dsimp only
      have h1 := h.sure x hxm
      have h2 := h.sure y hym
      have l1 := h1.length_le
      have l2 := h2.length_le
      rw [List.length_take] at l1 l2
      have s1 := g3 x hxm
      have s2 := g3 y hym
      refine List.prefix_of_prefix_length_le (List.take_prefix _ _) k3 ?_
      rw [List.length_take]
      omega

/-- More is committed. -/
theorem Inv.commit {g : GroupD} {C : List EntryD} (h : Inv g C) {L n : Nat} {x : ReplicaD} (hL : g.Lead = (L : Int)) (hx : g.Reps[L]? = some x) (hn : n < x.Log.length) (ht : x.Log[n].Term = g.Term)
    (hm : g.Reps.length < 2 * g.Reps.countP (fun y => pB (x.Log.take (n + 1) <+: y.Log))) :
    ∃ C', C <+: C' ∧ Inv ⟨g.Reps.set L { x with Sure := ((n + 1 : Nat) : Int) }, g.Term, g.Lead⟩ C' := by
  have hxm := List.mem_of_getElem? hx
  have hLl := (List.getElem?_eq_some_iff.1 hx).1
  obtain ⟨g1, g2, g3, g4⟩ := goodG_iff.1 h.good
  obtain ⟨k1, k2, k3⟩ := h.lead L x hL hx
  have hlast : lastT (x.Log.take (n + 1)) = g.Term := by
    rw [lastT_get (n := n) (by rw [List.length_take]; omega), List.getElem_take]
    exact ht
  -- what is committed now
  have hC : ∃ C', C <+: C' ∧ x.Log.take (n + 1) <+: C' ∧ C' <+: x.Log ∧ g.Reps.length < 2 * g.Reps.countP (fun y => pB (C' <+: y.Log)) ∧ (∀ y ∈ g.Reps, lastT C' < lastT y.Log → C' <+: y.Log) := by
    rcases prefix_total k3 (List.take_prefix (n + 1) x.Log) with k | k
    · refine ⟨x.Log.take (n + 1), k, List.prefix_refl _, List.take_prefix _ _, hm, fun y hy hlt => ?_⟩
      have := (good_last (g3 y hy).1 g2.1).2.1
      omega
    · exact ⟨C, List.prefix_refl _, k, k3, h.most, h.late⟩
  obtain ⟨C', c1, c2, c3, c4, c5⟩ := hC
  refine ⟨C', c1, ?_⟩
  have hlog : ∀ y ∈ g.Reps.set L { x with Sure := ((n + 1 : Nat) : Int) }, ∃ z ∈ g.Reps, z.Log = y.Log := fun y hy => by
    rcases mem_set hy with hy | rfl
    · exact ⟨y, hy, rfl⟩
    · exact ⟨x, hxm, rfl⟩
  refine ⟨goodG_iff.2 ⟨by simpa using g1, g2, fun y hy => ?_, ?_⟩, fun y hy z hz => ?_, fun L' y hL' hy => ?_, ?_, fun y hy => ?_, fun y hy => ?_⟩
  · rcases mem_set hy with hy | rfl
    · exact g3 y hy
    · have := g3 x hxm
      exact ⟨this.1, by dsimp only; omega, by dsimp only; omega⟩
  · rcases g4 with g4 | ⟨L', x', g4, g5, g6⟩
    · exact Or.inl g4
    · obtain rfl : L' = L := by omega
      rw [hx] at g5
      injection g5 with g5
      subst g5
      exact Or.inr ⟨L', _, g4, List.getElem?_set_self hLl, g6⟩
  · obtain ⟨y', hy', e1⟩ := hlog y hy
    obtain ⟨z', hz', e2⟩ := hlog z hz
    rw [← e1, ← e2]
    exact h.cmp y' hy' z' hz'
  · dsimp only at hL' hy ⊢
    obtain rfl : L' = L := by omega
    rw [List.getElem?_set_self hLl] at hy
    injection hy with hy
    subst hy
    refine ⟨k1, fun z hz => ?_, c3⟩
    obtain ⟨z', hz', e2⟩ := hlog z hz
    rw [← e2]
    exact k2 z' hz'
  · dsimp only
    rw [List.length_set, countP_same (y := { x with Sure := ((n + 1 : Nat) : Int) }) (fun l => pB (C' <+: l)) hx rfl]
    exact c4
  · obtain ⟨z, hz, e1⟩ := hlog y hy
    rw [← e1]
    exact c5 z hz
  · rcases mem_set hy with hy | rfl
    · exact (h.sure y hy).trans c1
    · dsimp only
      rw [Int.toNat_natCast]
      exact c2

/-- A group that is safe. -/
def Safe (g : GroupD) : Prop := ∀ a ∈ g.Reps, (∀ b ∈ g.Reps, a.Log.take a.Sure.toNat <+: b.Log.take b.Sure.toNat ∨ b.Log.take b.Sure.toNat <+: a.Log.take a.Sure.toNat) ∧
  ∀ (L : Nat) x, g.Lead = (L : Int) → g.Reps[L]? = some x → a.Log.take a.Sure.toNat <+: x.Log

theorem Inv.safe {g : GroupD} {C : List EntryD} (h : Inv g C) : Safe g := fun a ha =>
  ⟨fun b hb => prefix_total (h.sure a ha) (h.sure b hb), fun L x hL hx => (h.sure a ha).trans (h.lead L x hL hx).2.2⟩

theorem Inv.start {n : Nat} (hn : n = 3 ∨ n = 5) : Inv ⟨List.replicate n ⟨true, [], 0⟩, 0, -1⟩ [] := by
  have hm : ∀ x ∈ List.replicate n (⟨true, [], 0⟩ : ReplicaD), x = ⟨true, [], 0⟩ := fun x hx => List.eq_of_mem_replicate hx
  refine ⟨goodG_iff.2 ⟨by simpa using hn, ⟨Int.le_refl _, by show (0 : Int) ≤ 200; omega⟩, fun x hx => ?_, Or.inl rfl⟩, fun x hx y hy _ => ?_, fun L x hL => ?_, ?_, fun x hx _ => List.nil_prefix, fun x hx => ?_⟩
  · rw [hm x hx]
    exact ⟨⟨by simp, fun j hj => by simp at hj⟩, Int.le_refl _, by simp⟩
  · rw [hm x hx]
    exact Or.inl List.nil_prefix
  · dsimp only at hL; omega
  · rw [List.countP_eq_length.2 (fun x _ => pB_true List.nil_prefix)]
    simp
    omega
  · rw [hm x hx]
    exact List.nil_prefix

end Go.Proofs.Ytfaefjdlfjhniaa

