/- spec.l1All, spec.l1Own, spec.l7Good of a net without letters. Printed by mknet.py. -/
import Derived.Test.YtbkhooklieangaaNet1
namespace Go.Proofs.Ytbkhooklieangaa
open Go.RowKit

theorem l1In2_any (n lo hi : Int) (w : World) : Calls Try.prog 110 #[.int .i64 n, .int .i64 lo, .int .i64 hi] w fun e w' => e = .returned (.bool (inB n lo hi)) ∧ w = w' := l1In_any n lo hi w

set_option maxRecDepth 100000 in
set_option maxHeartbeats 800000 in
/-- spec.l1All -/
theorem l1All_any (v : Value) (l : List Int) (hl : l.length ≤ 1048576) (w : World) (h : Rd Cod.int w v l) :
    Calls Try.prog 134 #[v, .int .i64 0, .int .i64 2] w fun e w' => e = .returned (.bool (!l.any badHome)) ∧ w = w' := by
  obtain ⟨p, c, rfl, _, _, r⟩ := h.form
  have R := Lib.hid r
  clear r h
  obtain ⟨n, hn⟩ : ∃ n : Nat, l.length = n := ⟨_, rfl⟩
  have Hn := Lib.hid hn
  rw [hn]
  have hnb : (n : Int) ≤ 1048576 := by omega
  clear hn hl
  go_enter Try.func134, Try.ntmps134
  go_wp2
  go_loop [11] (fun i => ∃ k : Nat, i = .int .i64 (k : Int) ∧ k ≤ n ∧ Hid (∀ j (h : j < l.length), j < k → badHome l[j] = false)) (fun i => n - (intOf i).toNat)
  case atStart => exact ⟨0, rfl, Nat.zero_le _, Lib.hid fun j _ h => by omega⟩
  case round =>
    obtain ⟨k, rfl, hk, Hall⟩ := hrel
    by_cases hlt : k < n
    · have hlt2 : (k : Int) < (n : Int) := by omega
      have hkl : k < l.length := by have := Hn.out; omega
      obtain ⟨g, o, rfl, hg, hc⟩ := R.out (by have := Hn.out; omega)
      have at0 := hc k hkl
      have Hb : Hid (badHome l[k] = true → l.any badHome = true) := Lib.hid fun h => List.any_eq_true.2 ⟨l[k], List.getElem_mem hkl, h⟩
      have Hnx : Hid (badHome l[k] = false → ∀ j (h : j < l.length), j < k + 1 → badHome l[j] = false) := Lib.hid fun h j hj hjk => by
        by_cases e : j = k
        · subst e; exact h
        · exact Hall.out j hj (by omega)
      obtain ⟨x, es⟩ : ∃ x, l[k] = x := ⟨_, rfl⟩
      rw [es] at at0 Hb Hnx
      clear hc es hkl
      obtain ⟨d0, zx⟩ := at_int at0
      rw [show o + k * Cod.int.size = o + k from by rw [show Cod.int.size = 1 from rfl, Nat.mul_one]] at d0
      clear at0
      have Hc := Lib.hid (fun W => l1In_any x 0 2 W)
      unfold badHome at Hb Hnx
      generalize inB x 0 2 = b at *
      cases b
      · have Hq := Lib.hid (Hb.out rfl)
        go_wp2_with fail
        refine (Hc.out _).mono ?_
        rintro e w1 ⟨rfl, rfl⟩
        go_wp2
        go_ret
        exact ⟨ret_bool (by unfold badHome; rw [Hq.out]; rfl), rfl⟩
      · go_wp2_with fail
        refine (Hc.out _).mono ?_
        rintro e w1 ⟨rfl, rfl⟩
        go_wp2
        go_round
        case rel => exact ⟨k + 1, by go_num, by omega, Lib.hid (Hnx.out rfl)⟩
        case measure => simp [intOf]; omega
    · have hlt2 : (n : Int) ≤ (k : Int) := by omega
      obtain rfl : k = n := by omega
      have Hq : Hid (l.any badHome = false) := Lib.hid (List.any_eq_false.2 fun x hx => by
        obtain ⟨j, hj, rfl⟩ := List.getElem_of_mem hx
        rw [Hall.out j hj (by have := Hn.out; omega)]
        simp)
      go_wp2
      go_ret
      exact ⟨ret_bool (by rw [Hq.out]; rfl), rfl⟩

theorem Try_infoO_int : (Try.prog.info? 3).map (fun i => (i.zero, i.size, i.bytes)) = some (some (.int .i64 0), 1, 8) := by kernel_rfl

set_option maxRecDepth 100000 in
/-- spec.l1Own -/
theorem l1Own_any (v : Value) (l : List Int) (hl : l.length ≤ 1048576) (w : World) (h : Rd Cod.int w v l) :
    Calls Try.prog 85 #[v] w fun e w' => ∃ v', e = .returned v' ∧ Own Cod.int w' w.heap.size v' l ∧ Below w.heap.size w w' := by
  obtain ⟨i0, hi, hz0, hz1, hz2⟩ := info_parts Try_infoO_int
  have Hr2 : Hid (∀ (u : World), Below w.heap.size w u → Rd Cod.int u v l) := Lib.hid fun u k => h.below k
  have Hb : Hid ((0 + l.length) * 8 ≤ room) := Lib.hid (by unfold room; omega)
  obtain ⟨p, c, rfl, -⟩ := h.form
  clear h
  obtain ⟨n, hn⟩ : ∃ n : Nat, l.length = n := ⟨_, rfl⟩
  have Hn := Lib.hid hn
  rw [hn] at Hr2 ⊢
  clear hn hl
  go_enter Try.func85, Try.ntmps85
  go_wp2_with (at_builtin; refine wpList_append_flat (c := Cod.int) flat_int _ rfl _ _ 22 (by rfl) w.heap.size 3 i0 (.int .i64 0) 8 Try.underlying22 hi hz0 hz1 hz2 rfl (by decide) (by decide) _ (.slice (some ⟨w.heap.size, 0, none⟩) 0 0) 0 [] [] (by rfl) (part_start (World.ownsRow_made _ _ _ (Nat.le_refl _) (by simp) rfl)) rfl (Below.refl _ _) (.slice p n c) l (by rfl) (Hr2.out _ (below_new _ _)) Hb.out (by simp) ?_)
  intro p' c' w' cells' hP hb'
  have HP := Lib.hid hP
  clear hP
  have hb2 : Below w.heap.size w w' := (below_new _ _).trans hb'
  clear hb'
  go_wp2
  go_ret
  exact ⟨_, rfl, HP.out.own (by simp), hb2⟩

set_option maxRecDepth 100000 in
set_option maxHeartbeats 800000 in
/-- spec.l7Good of a net without letters -/
theorem l7Good_any (v : Value) (l : List Int) (far : Int) (hl : l.length ≤ 1048576) (w : World) (h : Rd Cod.int w v l) :
    Calls Try.prog 86 #[.agg #[.int .i64 0, v, .int .i64 far, .slice none 0 0]] w fun e w' => e = .returned (.bool (homesB l far)) ∧ Below w.heap.size w w' := by
  have Hc := Lib.hid (fun (W : World) (b : Below w.heap.size w W) => l1All_any v l hl W (h.below b))
  have Hn := Lib.hid (fun W => l1In_any (l.length : Int) 1 5 W)
  have Hf := Lib.hid (fun W => l1In_any far 0 20 W)
  have H0 : Hid (∀ W, Calls Try.prog 110 #[.int .i64 0, .int .i64 0, .int .i64 100000] W fun e w' => e = .returned (.bool true) ∧ W = w') := Lib.hid fun W => l1In_any 0 0 100000 W
  obtain ⟨p, c, rfl, -⟩ := h.form
  clear h
  unfold homesB
  generalize l.any badHome = q1 at *
  generalize inB (l.length : Int) 1 5 = q2 at *
  generalize inB far 0 20 = q3 at *
  generalize l.length = n at *
  cases q2 <;> cases q1 <;> cases q3
  all_goals
    go_enter Try.func86, Try.ntmps86
    go_wp2_with fail
    refine (H0.out _).mono ?_
    rintro e w1 ⟨rfl, rfl⟩
    go_wp2_with fail
    refine (Hn.out _).mono ?_
    rintro e w1 ⟨rfl, rfl⟩
    first
      | (go_wp2
         go_ret
         exact ⟨rfl, by (repeat (first | (with_reducible exact Below.refl _ _) | (with_reducible refine below_setCell ?_ (by first | (simp; done) | (simp; omega) | omega)) | (with_reducible refine below_alloc _ ?_) | (with_reducible refine below_drewN ?_ _) | (with_reducible assumption) | (with_reducible refine below_after (by assumption) ?_)))⟩)
      | (go_wp2_with fail
         refine (Hc.out _ (by (repeat (first | (with_reducible exact Below.refl _ _) | (with_reducible refine below_setCell ?_ (by first | (simp; done) | (simp; omega) | omega)) | (with_reducible refine below_alloc _ ?_) | (with_reducible refine below_drewN ?_ _) | (with_reducible assumption) | (with_reducible refine below_after (by assumption) ?_))))).mono ?_
         rintro e w1 ⟨rfl, rfl⟩
         first
           | (go_wp2
              go_ret
              exact ⟨rfl, by (repeat (first | (with_reducible exact Below.refl _ _) | (with_reducible refine below_setCell ?_ (by first | (simp; done) | (simp; omega) | omega)) | (with_reducible refine below_alloc _ ?_) | (with_reducible refine below_drewN ?_ _) | (with_reducible assumption) | (with_reducible refine below_after (by assumption) ?_)))⟩)
           | (go_wp2_with fail
              refine (Hf.out _).mono ?_
              rintro e w1 ⟨rfl, rfl⟩
              first
                | (go_wp2
                   go_ret
                   exact ⟨rfl, by (repeat (first | (with_reducible exact Below.refl _ _) | (with_reducible refine below_setCell ?_ (by first | (simp; done) | (simp; omega) | omega)) | (with_reducible refine below_alloc _ ?_) | (with_reducible refine below_drewN ?_ _) | (with_reducible assumption) | (with_reducible refine below_after (by assumption) ?_)))⟩)
                | (go_wp2
                   go_loopw [3, 4] (fun _ i wr => i = .int .i64 0 ∧ wr = w.alloc (.cells #[.int .i64 0, .slice p n c, .int .i64 far, .slice none 0 0] 26)) (fun _ _ _ => 0)
                   case atStart => exact ⟨rfl, rfl⟩
                   case round =>
                     obtain ⟨rfl, rfl⟩ := hrel
                     go_wp2
                     go_ret
                     exact ⟨rfl, by (repeat (first | (with_reducible exact Below.refl _ _) | (with_reducible refine below_setCell ?_ (by first | (simp; done) | (simp; omega) | omega)) | (with_reducible refine below_alloc _ ?_) | (with_reducible refine below_drewN ?_ _) | (with_reducible assumption) | (with_reducible refine below_after (by assumption) ?_)))⟩)))

end Go.Proofs.Ytbkhooklieangaa
