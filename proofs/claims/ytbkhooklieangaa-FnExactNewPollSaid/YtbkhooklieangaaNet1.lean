/- impl.areHomes. Printed by mknet.py. -/
import Derived.Test.YtbkhooklieangaaInts
namespace Go.Proofs.Ytbkhooklieangaa
open Go.RowKit

def badHome (h : Int) : Bool := !inB h 0 2

/-- the closure of impl.areHomes -/
theorem homesCf_closure (x : Int) (w : World) : Calls Try.prog 137 #[.int .i64 x] w fun e w' => e = .returned (.bool (badHome x)) ∧ Below w.heap.size w w' := by
  have Hc := Lib.hid (within_any x 0 2)
  unfold badHome
  generalize inB x 0 2 = q at *
  go_enter Try.func137, Try.ntmps137
  go_wp2_with fail
  refine (Hc.out _).mono ?_
  rintro e w1 ⟨rfl, rfl⟩
  go_wp2
  go_ret
  exact ⟨rfl, Below.refl _ _⟩

set_option maxRecDepth 100000 in
set_option maxHeartbeats 800000 in
/-- slices.IndexFunc at the closure -/
theorem homesCf_idx (v : Value) (l : List Int) (hl : l.length ≤ 1048576) (w : World) (h : Rd Cod.int w v l) :
    Calls Try.prog 162 #[v, .func (.func 137) #[] #[]] w fun e w' => (∃ r : Int, e = .returned (.int .i64 r) ∧ ((0 ≤ r ∧ r ≤ 1048576 ∧ l.any badHome = true) ∨ (r = -1 ∧ l.any badHome = false))) ∧ Below w.heap.size w w' := by
  obtain ⟨p, c, rfl, _, _, r⟩ := h.form
  have R := Lib.hid r
  clear r h
  obtain ⟨n, hn⟩ : ∃ n : Nat, l.length = n := ⟨_, rfl⟩
  have Hn := Lib.hid hn
  rw [hn]
  have hnb : (n : Int) ≤ 1048576 := by omega
  clear hn hl
  go_enter Try.func162, Try.ntmps162
  go_wp2
  go_loopw [5, 8] (fun _ i wr => ∃ k : Nat, i = .int .i64 (k : Int) ∧ k ≤ n ∧ Hid (∀ j (h : j < l.length), j < k → badHome l[j] = false) ∧ Below w.heap.size w wr) (fun _ i _ => n - (intOf i).toNat)
  case atStart => exact ⟨0, rfl, Nat.zero_le _, Lib.hid fun j _ h => by omega, Below.refl _ _⟩
  case round =>
    obtain ⟨k, rfl, hk, Hall, hb⟩ := hrel
    by_cases hlt : k < n
    · have hlt2 : (k : Int) < (n : Int) := by omega
      have hkl : k < l.length := by have := Hn.out; omega
      obtain ⟨g, o, rfl, hg, hc⟩ := R.out (by have := Hn.out; omega)
      have at0 := (hc k hkl).below hg hb
      have Hb : Hid (badHome l[k] = true → l.any badHome = true) := Lib.hid fun h => List.any_eq_true.2 ⟨l[k], List.getElem_mem hkl, h⟩
      have Hnx : Hid (badHome l[k] = false → ∀ j (h : j < l.length), j < k + 1 → badHome l[j] = false) := Lib.hid fun h j hj hjk => by
        by_cases e : j = k
        · subst e; exact h
        · exact Hall.out j hj (by omega)
      obtain ⟨x, es⟩ : ∃ x, l[k] = x := ⟨_, rfl⟩
      rw [es] at at0 Hb Hnx
      clear hc es hkl
      obtain ⟨d0, zx⟩ := at_int at0
      rw [show o + k * Cod.int.size = o + k from by rw [show Cod.int.size = 1 from rfl, Nat.mul_one]] at d0
      clear at0
      have Hc := Lib.hid (homesCf_closure x)
      generalize badHome x = b at *
      cases b
      · go_wp2_with fail
        refine (Hc.out _).mono ?_
        rintro e w1 ⟨rfl, k1⟩
        go_wp2
        go_roundw
        case rel => exact ⟨k + 1, by go_num, by omega, Lib.hid (Hnx.out (by first | rfl | trivial)), below_after k1 hb⟩
        case measure => simp [intOf]; omega
      · have Hq := Lib.hid (Hb.out (by first | rfl | trivial))
        go_wp2_with fail
        refine (Hc.out _).mono ?_
        rintro e w1 ⟨rfl, k1⟩
        go_wp2
        go_ret
        exact ⟨⟨_, rfl, Or.inl ⟨by omega, by omega, Hq.out⟩⟩, below_after k1 hb⟩
    · have hlt2 : (n : Int) ≤ (k : Int) := by omega
      obtain rfl : k = n := by omega
      have Hq : Hid (l.any badHome = false) := Lib.hid (List.any_eq_false.2 fun x hx => by
        obtain ⟨j, hj, rfl⟩ := List.getElem_of_mem hx
        rw [Hall.out j hj (by have := Hn.out; omega)]
        simp)
      go_wp2
      go_ret
      exact ⟨⟨_, rfl, Or.inr ⟨rfl, Hq.out⟩⟩, hb⟩

/-- slices.ContainsFunc at the closure -/
theorem homesCf_any (v : Value) (l : List Int) (hl : l.length ≤ 1048576) (w : World) (h : Rd Cod.int w v l) :
    Calls Try.prog 136 #[v, .func (.func 137) #[] #[]] w fun e w' => e = .returned (.bool (l.any badHome)) ∧ Below w.heap.size w w' := by
  have Hc := Lib.hid (homesCf_idx v l hl w h)
  generalize l.any badHome = b at *
  go_enter Try.func136, Try.ntmps136
  go_wp2_with fail
  refine Hc.out.mono ?_
  rintro e w1 ⟨⟨r, rfl, hr⟩, k1⟩
  rcases hr with ⟨h0, h1, ha⟩ | ⟨rfl, ha⟩
  · have Ha := Lib.hid ha
    clear ha
    go_wp2
    go_ret
    exact ⟨ret_bool (by first | (rw [Ha.out]; done) | (rw [Ha.out]; simp; omega)), k1⟩
  · have Ha := Lib.hid ha
    clear ha
    go_wp2
    go_ret
    exact ⟨ret_bool (by first | (rw [Ha.out]; done) | (rw [Ha.out]; simp)), k1⟩

def homesB (l : List Int) (far : Int) : Bool := (inB l.length 1 5 && !l.any badHome) && inB far 0 20

set_option maxRecDepth 100000 in
/-- impl.areHomes -/
theorem areHomes_any (v : Value) (l : List Int) (far : Int) (hl : l.length ≤ 1048576) (w : World) (h : Rd Cod.int w v l) :
    Calls Try.prog 87 #[v, .int .i64 far] w fun e w' => e = .returned (.bool (homesB l far)) ∧ Below w.heap.size w w' := by
  have Hc := Lib.hid (homesCf_any v l hl w h)
  have Hn := Lib.hid (fun W => within_any (l.length : Int) 1 5 W)
  have Hf := Lib.hid (fun W => within_any far 0 20 W)
  obtain ⟨p, c, rfl, -⟩ := h.form
  clear h
  unfold homesB
  generalize l.any badHome = q1 at *
  generalize inB (l.length : Int) 1 5 = q2 at *
  generalize inB far 0 20 = q3 at *
  generalize l.length = n at *
  cases q2
  · go_enter Try.func87, Try.ntmps87
    go_wp2_with fail
    refine (Hn.out _).mono ?_
    rintro e w1 ⟨rfl, rfl⟩
    go_wp2
    go_ret
    exact ⟨rfl, Below.refl _ _⟩
  cases q1
  all_goals
    go_enter Try.func87, Try.ntmps87
    go_wp2_with fail
    refine (Hn.out _).mono ?_
    rintro e w1 ⟨rfl, rfl⟩
    go_wp2_with fail
    refine Hc.out.mono ?_
    rintro e w2 ⟨rfl, k2⟩
    first
      | (go_wp2
         go_ret
         exact ⟨rfl, k2⟩)
      | (go_wp2_with fail
         refine (Hf.out _).mono ?_
         rintro e w3 ⟨rfl, rfl⟩
         go_wp2
         go_ret
         exact ⟨rfl, k2⟩)

end Go.Proofs.Ytbkhooklieangaa
