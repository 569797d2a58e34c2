/- impl.TextsBytes with slices.ContainsFunc. -/
import Derived.Test.YtkgnogdbojefkaaTextsB
namespace Go.Proofs.Ytkgnogdbojefkaa
open Go.RowKit

/-- The closure of impl.TextsBytes. -/
theorem textsClosure_any (s : ByteArray) (hs : s.size ≤ 1048576) (w : World) :
    Calls Try.prog 72 #[.string s] w fun e w' => e = .returned (.bool (decide ((60 : Int) < (s.size : Int)))) ∧ w = w' := by
  have hI : (s.size : Int) ≤ 1048576 := by omega
  go_enter Try.func72, Try.ntmps72
  go_wp2
  go_ret
  exact ⟨rfl, rfl⟩

/-- Whether a text is too long. -/
def anyLong (l : List ByteArray) : Bool := l.any fun s => decide (60 < s.size)
theorem anyLong_true {l : List ByteArray} {k : Nat} (h : k < l.length) (hb : 60 < l[k].size) : anyLong l = true := by
  unfold anyLong
  rw [List.any_eq_true]
  exact ⟨l[k], List.getElem_mem h, by simpa using hb⟩
theorem anyLong_false {l : List ByteArray} (k : ∀ j (h : j < l.length), l[j].size ≤ 60) : anyLong l = false := by
  unfold anyLong
  rw [List.any_eq_false]
  intro x hx
  obtain ⟨j, hj, rfl⟩ := List.getElem_of_mem hx
  have := k j hj
  simp
  omega
theorem textsQ_any (l : List ByteArray) : textsQ l = (decide (l.length ≤ 40) && !anyLong l) := by
  by_cases h : l.length ≤ 40
  · cases ha : anyLong l
    · rw [textsQ_good h (fun j hj => by
        by_cases hb : 60 < l[j].size
        · rw [anyLong_true hj hb] at ha; cases ha
        · omega)]
      simp [h]
    · unfold anyLong at ha
      obtain ⟨x, hx, hb⟩ := List.any_eq_true.1 ha
      obtain ⟨j, hj, rfl⟩ := List.getElem_of_mem hx
      rw [textsQ_big hj (by simpa using hb)]
      simp
  · rw [textsQ_long (by omega)]
    simp [h]

set_option maxRecDepth 100000 in
/-- slices.IndexFunc at the closure -/
theorem indexFunc_any (v : Value) (l : List ByteArray) (hl : l.length ≤ 1048576) (hs : sumSize l ≤ 1048576) (w : World) (h : StrRow w v l) :
    Calls Try.prog 130 #[v, .func (.func 72) #[] #[]] w fun e w' => (∃ r : Int, e = .returned (.int .i64 r) ∧ ((0 ≤ r ∧ r ≤ 1048576 ∧ anyLong l = true) ∨ (r = -1 ∧ anyLong l = false))) ∧ w = w' := by
  obtain ⟨p, c, rfl, r⟩ := h
  have R := Lib.hid r
  clear r
  obtain ⟨n, hn⟩ : ∃ n : Nat, l.length = n := ⟨_, rfl⟩
  have Hn := Lib.hid hn
  rw [hn]
  have hnb : (n : Int) ≤ 1048576 := by omega
  clear hn hl
  have Hs := Lib.hid hs
  clear hs
  go_enter Try.func130, Try.ntmps130
  go_wp2
  go_loop [5, 8] (fun _ i => ∃ k : Nat, i = .int .i64 (k : Int) ∧ k ≤ n ∧ Hid (∀ j (h : j < l.length), j < k → l[j].size ≤ 60)) (fun _ i => n - (intOf i).toNat)
  case atStart => exact ⟨0, rfl, Nat.zero_le _, Lib.hid fun j _ h => by omega⟩
  case round =>
    obtain ⟨k, rfl, hk, Hall⟩ := hrel
    by_cases hlt : k < n
    · have hlt2 : (k : Int) < (n : Int) := by omega
      have hkl : k < l.length := by have := Hn.out; omega
      obtain ⟨g, o, rfl, hg, hc⟩ := R.out (by have := Hn.out; omega)
      have d0 := hc k hkl
      have hz := sumSize_get l k hkl
      have hz2 := Hs.out
      have Hb : Hid (60 < l[k].size → anyLong l = true) := Lib.hid (anyLong_true hkl)
      have Hnx : Hid (l[k].size ≤ 60 → ∀ j (h : j < l.length), j < k + 1 → l[j].size ≤ 60) := Lib.hid fun h j hj hjk => by
        by_cases e : j = k
        · subst e; exact h
        · exact Hall.out j hj (by omega)
      have Hc := Lib.hid (textsClosure_any l[k] (by omega))
      obtain ⟨s, es⟩ : ∃ s, l[k] = s := ⟨_, rfl⟩
      rw [es] at d0 Hb Hnx Hc
      clear hc es hkl hz hz2
      by_cases hbig : 60 < s.size
      · have hbig2 : (60 : Int) < (s.size : Int) := by omega
        have Hq := Lib.hid (Hb.out hbig)
        go_wp2_with (go_at_call 72; refine (Hc.out _).mono ?_; rintro e w1 ⟨rfl, rfl⟩)
        go_ret
        exact ⟨⟨_, rfl, Or.inl ⟨by omega, by omega, Hq.out⟩⟩, rfl⟩
      · have hbig2 : (s.size : Int) ≤ 60 := by omega
        go_wp2_with (go_at_call 72; refine (Hc.out _).mono ?_; rintro e w1 ⟨rfl, rfl⟩)
        go_round
        case rel => exact ⟨k + 1, by go_num, by omega, Lib.hid (Hnx.out (by omega))⟩
        case measure => simp [intOf]; omega
    · have hlt2 : (n : Int) ≤ (k : Int) := by omega
      obtain rfl : k = n := by omega
      have Hq := Lib.hid (anyLong_false (l := l) (fun j hj => Hall.out j hj (by have := Hn.out; omega)))
      go_wp2
      go_ret
      exact ⟨⟨_, rfl, Or.inr ⟨rfl, Hq.out⟩⟩, rfl⟩

/-- slices.ContainsFunc at the closure -/
theorem containsFunc_any (v : Value) (l : List ByteArray) (hl : l.length ≤ 1048576) (hs : sumSize l ≤ 1048576) (w : World) (h : StrRow w v l) :
    Calls Try.prog 71 #[v, .func (.func 72) #[] #[]] w fun e w' => e = .returned (.bool (anyLong l)) ∧ w = w' := by
  have Hc := Lib.hid (indexFunc_any v l hl hs w h)
  go_enter Try.func71, Try.ntmps71
  go_wp2_with fail
  refine Hc.out.mono ?_
  rintro e w1 ⟨⟨r, rfl, hr⟩, rfl⟩
  rcases hr with ⟨h0, h1, ha⟩ | ⟨rfl, ha⟩
  · have Ha := Lib.hid ha
    clear ha
    go_wp2
    go_ret
    exact ⟨ret_bool (by first | (rw [Ha.out]; done) | (rw [Ha.out]; simp; omega)), rfl⟩
  · have Ha := Lib.hid ha
    clear ha
    go_wp2
    go_ret
    exact ⟨ret_bool (by first | (rw [Ha.out]; done) | (rw [Ha.out]; simp)), rfl⟩

set_option maxRecDepth 100000 in
/-- impl.TextsBytes -/
theorem expTextsBytes_any (v : Value) (l : List ByteArray) (hl : l.length ≤ 1048576) (hs : sumSize l ≤ 1048576) (w : World) (h : StrRow w v l) :
    Calls Try.prog 18 #[v] w fun e w' => e = .returned (.tuple #[.string (textsR l), .bool (textsQ l)]) ∧ Below w.heap.size w w' := by
  have Hc := Lib.hid (containsFunc_any v l hl hs w h)
  have Hd := Lib.hid (textsBytes_any v l hl hs w h)
  have Hq := Lib.hid (textsQ_any l)
  obtain ⟨p, c, rfl, r⟩ := h
  clear r hs
  obtain ⟨n, hn⟩ : ∃ n : Nat, l.length = n := ⟨_, rfl⟩
  rw [hn] at Hc Hd Hq ⊢
  have hnb : (n : Int) ≤ 1048576 := by omega
  clear hn hl
  generalize anyLong l = q at *
  by_cases hlong : 40 < n
  · have hlong2 : (40 : Int) < (n : Int) := by omega
    have He : Hid (textsQ l = false) := Lib.hid (by rw [Hq.out, show decide (n ≤ 40) = false from by simp; omega]; rfl)
    go_enter Try.func18, Try.ntmps18
    go_wp2
    go_ret2
    exact ⟨by unfold textsR; rw [He.out]; rfl, Below.refl _ _⟩
  have hlong2 : (n : Int) ≤ 40 := by omega
  cases q
  · have He : Hid (textsQ l = true) := Lib.hid (by rw [Hq.out, show decide (n ≤ 40) = true from by simp; omega]; rfl)
    go_enter Try.func18, Try.ntmps18
    go_wp2_with (first | (go_at_call 71; refine Hc.out.mono ?_; rintro e w1 ⟨rfl, rfl⟩) | (go_at_call 73; refine Hd.out.mono ?_; rintro e w1 ⟨rfl, k⟩))
    go_ret2
    exact ⟨by unfold textsR; rw [He.out]; rfl, k⟩
  · have He : Hid (textsQ l = false) := Lib.hid (by rw [Hq.out]; simp)
    go_enter Try.func18, Try.ntmps18
    go_wp2_with (go_at_call 71; refine Hc.out.mono ?_; rintro e w1 ⟨rfl, rfl⟩)
    go_ret2
    exact ⟨by unfold textsR; rw [He.out]; rfl, Below.refl _ _⟩

end Go.Proofs.Ytkgnogdbojefkaa
