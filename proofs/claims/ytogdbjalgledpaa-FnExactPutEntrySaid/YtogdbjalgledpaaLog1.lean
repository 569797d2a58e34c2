/- impl.isLog. Printed by mklog.py. -/
import Derived.Test.YtogdbjalgledpaaData2
import Derived.Test.YtogdbjalgledpaaGoodRec
namespace Go.Proofs.Ytogdbjalgledpaa
open Go.RowKit

def EntAt (l : List EntryD) (term : Int) (j : Nat) : Prop := ∀ h : j < l.length, inB l[j].Term 1 term = true ∧ goodRB l[j].Rec = true ∧ ∀ m (_ : m + 1 = j), (l[m]'(by omega)).Term ≤ l[j].Term
def GoodLog (l : List EntryD) (term : Int) : Prop := l.length ≤ 60 ∧ ∀ j, j < l.length → EntAt l term j

theorem ent_le {l : List EntryD} (hl : costEntryS l ≤ 1048576) {k : Nat} (hk : k < l.length) : l[k].Rec.Reads.length ≤ 1048576 ∧ l[k].Rec.Writes.length ≤ 1048576 := by
  have h1 := sumC_get costEntry l k hk
  unfold costEntryS at hl
  have h2 : costStringS l[k].Rec.Reads ≤ costEntry l[k] ∧ costWriteS l[k].Rec.Writes ≤ costEntry l[k] := by unfold costEntry; omega
  unfold costStringS costWriteS at h2
  omega

set_option maxRecDepth 100000 in
set_option maxHeartbeats 6400000 in
/-- impl.isLog -/
theorem isLog_any (v : Value) (l : List EntryD) (term : Int) (ht : I64 term) (hl : costEntryS l ≤ 1048576) (w : World) (h : Rd Cod.entry w v l) :
    Calls Try.prog 83 #[v, .int .i64 term] w fun e w' => e = .returned (.bool (pB (GoodLog l term))) ∧ Below w.heap.size w w' := by
  obtain ⟨p, c, rfl, _, _, r⟩ := h.form
  have R := Lib.hid r
  have Hl := Lib.hid hl
  clear r h
  obtain ⟨n, hn⟩ : ∃ n : Nat, l.length = n := ⟨_, rfl⟩
  have Hn0 := Lib.hid hn
  rw [hn]
  have hnb : (n : Int) ≤ 1048576 := by unfold costEntryS at hl; omega
  obtain ⟨ht1, ht2⟩ := ht
  clear hn hl
  go_enter Try.func83, Try.ntmps83
  go_wp2
  go_loopw [9] (fun i wr => ∃ k : Nat, i = .int .i64 (k : Int) ∧ k ≤ n ∧ Hid (∀ j, j < k → EntAt l term j) ∧ Below w.heap.size w wr) (fun i _ => n - (intOf i).toNat)
  case atStart => exact ⟨0, rfl, Nat.zero_le _, Lib.hid (fun j h => by omega), Below.refl _ _⟩
  case round =>
    obtain ⟨k, rfl, hk, Hall, hb⟩ := hrel
    have hbs := hb.size
    by_cases hlt : k < n
    · have hlt2 : (k : Int) < (n : Int) := by omega
      have hkl : k < l.length := by have := Hn0.out; omega
      obtain ⟨g, o, rfl, hg, hc⟩ := R.out (by have := Hn0.out; omega)
      have at0 := (hc k hkl).below hg hb
      have hel := ent_le Hl.out hkl
      have hgl : g < wr.heap.size := by omega
      have hgl' : g < wr.heap.size + 1 := by omega
      have Hb0 : Hid (inB l[k].Term 1 term = false → pB (GoodLog l term) = false) := Lib.hid fun h => pB_false fun hr => by
        have := (hr.2 k hkl hkl).1
        rw [h] at this
        cases this
      have Hb1 : Hid (goodRB l[k].Rec = false → pB (GoodLog l term) = false) := Lib.hid fun h => pB_false fun hr => by
        have h1 := (hr.2 k hkl hkl).2.1
        rw [h1] at h
        cases h
      have Hn : Hid (inB l[k].Term 1 term = true → goodRB l[k].Rec = true → (∀ m (hm : m + 1 = k), (l[m]'(by omega)).Term ≤ l[k].Term) → ∀ j, j < k + 1 → EntAt l term j) := Lib.hid fun h1 h2 h3 j hj => by
        by_cases e : j = k
        · subst e
          exact fun _ => ⟨h1, h2, h3⟩
        · exact Hall.out j (by omega)
      by_cases hk0 : k = 0
      · have hd : decide (0 < k) = false := by simp; omega
        have Ho : Hid (∀ m (hm : m + 1 = k), (l[m]'(by omega)).Term ≤ l[k].Term) := Lib.hid fun m hm => by omega
        obtain ⟨y, es⟩ : ∃ y, l[k] = y := ⟨_, rfl⟩
        have Hn' : Hid (inB y.Term 1 term = true → goodRB y.Rec = true → ∀ j, j < k + 1 → EntAt l term j) := Lib.hid fun h1 h2 => Hn.out (by rw [es]; exact h1) (by rw [es]; exact h2) Ho.out
        rw [es] at at0 Hb0 Hb1 hel
        obtain ⟨d0, d1, d2, d3, d4, ⟨ur, d5, rr⟩, ⟨uw, d6, rw'⟩, d7, _⟩ := at_entry at0
        rw [show o + k * Cod.entry.size = o + k * 8 from rfl] at *
        obtain ⟨pr, cr, rfl, -⟩ := rr.form
        obtain ⟨pw, cw, rfl, -⟩ := rw'.form
        have Hc0 := Lib.hid (fun W => within_any y.Term 1 term W)
        have Hc1 := Lib.hid (fun (W : World) (b : Below wr.heap.size wr W) => goodRec_any y.Rec hel.1 hel.2 W _ _ (rr.below b) (rw'.below b))
        clear hc es hkl at0 hk0 hel Hn Ho rr rw'
        generalize inB y.Term 1 term = c0 at *
        generalize goodRB y.Rec = c1 at *
        cases c0
        · have Hq := Lib.hid (Hb0.out (by first | rfl | trivial))
          go_wp2_with fail
          have hx2 := fun (u : World) (b o : Nat) (h : b < wr.heap.size + 1) => ext_cell (wr.alloc (.cells #[.int .i64 y.Term, .int .i64 y.Rec.Kind, .int .i64 y.Rec.Txn, .int .i64 y.Rec.Time, .int .i64 y.Rec.Lead, .slice pr y.Rec.Reads.length cr, .slice pw y.Rec.Writes.length cw, .bool y.Rec.Yes] 81)) u b o h
          refine wp_region_ext (by kernel_rfl) (by kernel_rfl) (wr.heap.size + 1) ?_
          repeat (any_goals (go_big_quiet_step ((first | (go_at_call 80; exact calls_ext_same (Hc0.out _)) | (go_at_call 60; exact calls_ext (by first | (simp; done) | omega | (simp; omega)) (Hc1.out _ ((below_new _ _).trans ((ext_below _ _ _).mono (by simp)))))))))
          refine wpQuiet_nil ?_
          intro w2 hb2
          clear hx2
          go_wp2
          go_ret
          exact ⟨ret_bool (by rw [Hq.out]), (below_alloc _ hb).trans (hb2.mono (by omega))⟩
        cases c1
        · have Hq := Lib.hid (Hb1.out (by first | rfl | trivial))
          go_wp2_with fail
          have hx2 := fun (u : World) (b o : Nat) (h : b < wr.heap.size + 1) => ext_cell (wr.alloc (.cells #[.int .i64 y.Term, .int .i64 y.Rec.Kind, .int .i64 y.Rec.Txn, .int .i64 y.Rec.Time, .int .i64 y.Rec.Lead, .slice pr y.Rec.Reads.length cr, .slice pw y.Rec.Writes.length cw, .bool y.Rec.Yes] 81)) u b o h
          refine wp_region_ext (by kernel_rfl) (by kernel_rfl) (wr.heap.size + 1) ?_
          repeat (any_goals (go_big_quiet_step ((first | (go_at_call 80; exact calls_ext_same (Hc0.out _)) | (go_at_call 60; exact calls_ext (by first | (simp; done) | omega | (simp; omega)) (Hc1.out _ ((below_new _ _).trans ((ext_below _ _ _).mono (by simp)))))))))
          refine wpQuiet_nil ?_
          intro w2 hb2
          clear hx2
          go_wp2
          go_ret
          exact ⟨ret_bool (by rw [Hq.out]), (below_alloc _ hb).trans (hb2.mono (by omega))⟩
        have Hq := Lib.hid (Hn'.out (by first | rfl | trivial) (by first | rfl | trivial))
        go_wp2_with fail
        have hx2 := fun (u : World) (b o : Nat) (h : b < wr.heap.size + 1) => ext_cell (wr.alloc (.cells #[.int .i64 y.Term, .int .i64 y.Rec.Kind, .int .i64 y.Rec.Txn, .int .i64 y.Rec.Time, .int .i64 y.Rec.Lead, .slice pr y.Rec.Reads.length cr, .slice pw y.Rec.Writes.length cw, .bool y.Rec.Yes] 81)) u b o h
        refine wp_region_ext (by kernel_rfl) (by kernel_rfl) (wr.heap.size + 1) ?_
        repeat (any_goals (go_big_quiet_step ((first | (go_at_call 80; exact calls_ext_same (Hc0.out _)) | (go_at_call 60; exact calls_ext (by first | (simp; done) | omega | (simp; omega)) (Hc1.out _ ((below_new _ _).trans ((ext_below _ _ _).mono (by simp)))))))))
        refine wpQuiet_nil ?_
        intro w2 hb2
        clear hx2
        go_wp2
        go_roundw
        case rel => exact ⟨k + 1, by go_num, by omega, Hq, (below_alloc _ hb).trans (hb2.mono (by omega))⟩
        case measure => simp [intOf]; omega
      · obtain ⟨m, hm⟩ : ∃ m, m + 1 = k := ⟨k - 1, by omega⟩
        have hml : m < l.length := by omega
        have at1 := (hc m hml).below hg hb
        have Hbo : Hid (¬ (l[m].Term ≤ l[k].Term) → pB (GoodLog l term) = false) := Lib.hid fun h => pB_false fun hr => h ((hr.2 k hkl hkl).2.2 m hm)
        have Hlt : Hid (l[m].Term ≤ l[k].Term → ∀ m' (hm' : m' + 1 = k), (l[m']'(by omega)).Term ≤ l[k].Term) := Lib.hid fun h m' hm' => by
          obtain rfl : m' = m := by omega
          exact h
        have hd : decide (0 < k) = true := by simp; omega
        have hkm : IntKind.i64.wrap ((k : Int) - 1) = (m : Int) := by rw [IntWalk.i64_in _ (by omega)]; omega
        have hmn : (m : Int) < (n : Int) := by omega
        have hm0 : (0 : Int) ≤ (m : Int) := by omega
        obtain ⟨y, es⟩ : ∃ y, l[k] = y := ⟨_, rfl⟩
        obtain ⟨z, et⟩ : ∃ z, l[m] = z := ⟨_, rfl⟩
        have Hn' : Hid (inB y.Term 1 term = true → goodRB y.Rec = true → z.Term ≤ y.Term → ∀ j, j < k + 1 → EntAt l term j) := Lib.hid fun h1 h2 h3 => Hn.out (by rw [es]; exact h1) (by rw [es]; exact h2) (Hlt.out (by rw [es, et]; exact h3))
        rw [es] at at0 Hb0 Hb1 Hbo hel
        rw [et] at at1 Hbo
        obtain ⟨d0, d1, d2, d3, d4, ⟨ur, d5, rr⟩, ⟨uw, d6, rw'⟩, d7, _⟩ := at_entry at0
        have e0 := (at_entry at1).1
        rw [show o + k * Cod.entry.size = o + k * 8 from rfl] at *
        rw [show o + m * Cod.entry.size = o + m * 8 from rfl] at *
        obtain ⟨pr, cr, rfl, -⟩ := rr.form
        obtain ⟨pw, cw, rfl, -⟩ := rw'.form
        have Hc0 := Lib.hid (fun W => within_any y.Term 1 term W)
        have Hc1 := Lib.hid (fun (W : World) (b : Below wr.heap.size wr W) => goodRec_any y.Rec hel.1 hel.2 W _ _ (rr.below b) (rw'.below b))
        clear hc es et hkl at0 at1 hk0 hel Hn Hlt rr rw' hm hml
        generalize inB y.Term 1 term = c0 at *
        generalize goodRB y.Rec = c1 at *
        cases c0
        · have Hq := Lib.hid (Hb0.out (by first | rfl | trivial))
          go_wp2_with fail
          have hx2 := fun (u : World) (b o : Nat) (h : b < wr.heap.size + 1) => ext_cell (wr.alloc (.cells #[.int .i64 y.Term, .int .i64 y.Rec.Kind, .int .i64 y.Rec.Txn, .int .i64 y.Rec.Time, .int .i64 y.Rec.Lead, .slice pr y.Rec.Reads.length cr, .slice pw y.Rec.Writes.length cw, .bool y.Rec.Yes] 81)) u b o h
          refine wp_region_ext (by kernel_rfl) (by kernel_rfl) (wr.heap.size + 1) ?_
          repeat (any_goals (go_big_quiet_step ((first | (go_at_call 80; exact calls_ext_same (Hc0.out _)) | (go_at_call 60; exact calls_ext (by first | (simp; done) | omega | (simp; omega)) (Hc1.out _ ((below_new _ _).trans ((ext_below _ _ _).mono (by simp)))))))))
          refine wpQuiet_nil ?_
          intro w2 hb2
          clear hx2 hkm
          go_wp2
          go_ret
          exact ⟨ret_bool (by rw [Hq.out]), (below_alloc _ hb).trans (hb2.mono (by omega))⟩
        cases c1
        · have Hq := Lib.hid (Hb1.out (by first | rfl | trivial))
          go_wp2_with fail
          have hx2 := fun (u : World) (b o : Nat) (h : b < wr.heap.size + 1) => ext_cell (wr.alloc (.cells #[.int .i64 y.Term, .int .i64 y.Rec.Kind, .int .i64 y.Rec.Txn, .int .i64 y.Rec.Time, .int .i64 y.Rec.Lead, .slice pr y.Rec.Reads.length cr, .slice pw y.Rec.Writes.length cw, .bool y.Rec.Yes] 81)) u b o h
          refine wp_region_ext (by kernel_rfl) (by kernel_rfl) (wr.heap.size + 1) ?_
          repeat (any_goals (go_big_quiet_step ((first | (go_at_call 80; exact calls_ext_same (Hc0.out _)) | (go_at_call 60; exact calls_ext (by first | (simp; done) | omega | (simp; omega)) (Hc1.out _ ((below_new _ _).trans ((ext_below _ _ _).mono (by simp)))))))))
          refine wpQuiet_nil ?_
          intro w2 hb2
          clear hx2 hkm
          go_wp2
          go_ret
          exact ⟨ret_bool (by rw [Hq.out]), (below_alloc _ hb).trans (hb2.mono (by omega))⟩
        by_cases hord : z.Term ≤ y.Term
        · have hle : decide (y.Term < z.Term) = false := by simp; omega
          have Hq := Lib.hid (Hn'.out (by first | rfl | trivial) (by first | rfl | trivial) hord)
          go_wp2_with fail
          have hx2 := fun (u : World) (b o : Nat) (h : b < wr.heap.size + 1) => ext_cell (wr.alloc (.cells #[.int .i64 y.Term, .int .i64 y.Rec.Kind, .int .i64 y.Rec.Txn, .int .i64 y.Rec.Time, .int .i64 y.Rec.Lead, .slice pr y.Rec.Reads.length cr, .slice pw y.Rec.Writes.length cw, .bool y.Rec.Yes] 81)) u b o h
          refine wp_region_ext (by kernel_rfl) (by kernel_rfl) (wr.heap.size + 1) ?_
          repeat (any_goals (go_big_quiet_step ((first | (go_at_call 80; exact calls_ext_same (Hc0.out _)) | (go_at_call 60; exact calls_ext (by first | (simp; done) | omega | (simp; omega)) (Hc1.out _ ((below_new _ _).trans ((ext_below _ _ _).mono (by simp)))))))))
          refine wpQuiet_nil ?_
          intro w2 hb2
          clear hx2 hkm
          go_wp2
          go_roundw
          case rel => exact ⟨k + 1, by go_num, by omega, Hq, (below_alloc _ hb).trans (hb2.mono (by omega))⟩
          case measure => simp [intOf]; omega
        · have hle : decide (y.Term < z.Term) = true := by simp; omega
          have Hq := Lib.hid (Hbo.out hord)
          go_wp2_with fail
          have hx2 := fun (u : World) (b o : Nat) (h : b < wr.heap.size + 1) => ext_cell (wr.alloc (.cells #[.int .i64 y.Term, .int .i64 y.Rec.Kind, .int .i64 y.Rec.Txn, .int .i64 y.Rec.Time, .int .i64 y.Rec.Lead, .slice pr y.Rec.Reads.length cr, .slice pw y.Rec.Writes.length cw, .bool y.Rec.Yes] 81)) u b o h
          refine wp_region_ext (by kernel_rfl) (by kernel_rfl) (wr.heap.size + 1) ?_
          repeat (any_goals (go_big_quiet_step ((first | (go_at_call 80; exact calls_ext_same (Hc0.out _)) | (go_at_call 60; exact calls_ext (by first | (simp; done) | omega | (simp; omega)) (Hc1.out _ ((below_new _ _).trans ((ext_below _ _ _).mono (by simp)))))))))
          refine wpQuiet_nil ?_
          intro w2 hb2
          clear hx2 hkm
          go_wp2
          go_ret
          exact ⟨ret_bool (by rw [Hq.out]), (below_alloc _ hb).trans (hb2.mono (by omega))⟩
    · have hlt2 : (n : Int) ≤ (k : Int) := by omega
      obtain rfl : k = n := by omega
      have Hq : Hid (pB (GoodLog l term) = decide ((k : Int) ≤ 60)) := Lib.hid (pB_eq (by
        rw [decide_eq_true_iff]
        exact ⟨fun h => by have := h.1; have := Hn0.out; omega, fun h => ⟨by have := Hn0.out; omega, fun j hj => Hall.out j (by have := Hn0.out; omega)⟩⟩))
      by_cases h60 : (k : Int) ≤ 60
      · go_wp2
        go_ret
        exact ⟨ret_bool (by rw [Hq.out, decide_eq_true h60]; first | done | rfl | (simp; omega)), hb⟩
      · have h61 : (60 : Int) < (k : Int) := by omega
        go_wp2
        go_ret
        exact ⟨ret_bool (by rw [Hq.out, decide_eq_false (show ¬ (k : Int) ≤ 60 by omega)]; first | done | rfl | (simp; omega)), hb⟩

end Go.Proofs.Ytogdbjalgledpaa
