/- MeetSpans: the closure and ContainsFunc. -/
import Derived.Test.YtkgnogdbojefkaaData
import Derived.Test.YtkgnogdbojefkaaSpans
namespace Go.Proofs.Ytkgnogdbojefkaa
open Go.RowKit

/-- Whether a span is bad. -/
def badSpan (x : SpanD) : Bool := !spanB x.Low x.High

/-- the closure of impl.MeetSpans -/
theorem meetCf_closure (x : SpanD) (w : World) : Calls Try.prog 85 #[.agg #[.int .i64 x.Low, .int .i64 x.High]] w fun e w' => e = .returned (.bool (badSpan x)) ∧ Below w.heap.size w w' := by
  have Hc := Lib.hid (goodSpan_any x.Low x.High)
  unfold badSpan
  generalize spanB x.Low x.High = q at *
  go_enter Try.func85, Try.ntmps85
  go_wp2_with (go_at_call 86; refine (Hc.out _).mono ?_; rintro e w1 ⟨rfl, k⟩; have hx := bcell k; have hz := k.size)
  go_ret
  exact ⟨rfl, by (repeat (first | exact Below.refl _ _ | exact below_new _ _ | refine below_setCell ?_ (by first | (simp; done) | (simp; omega) | omega) | refine below_alloc _ ?_ | refine below_drewN ?_ _ | refine below_after (by assumption) ?_ | assumption))⟩

set_option maxRecDepth 100000 in
set_option maxHeartbeats 800000 in
/-- slices.IndexFunc at the closure -/
theorem meetCf_idx (v : Value) (l : List SpanD) (hl : l.length ≤ 1048576) (w : World) (h : Rd Cod.span w v l) :
    Calls Try.prog 136 #[v, .func (.func 85) #[] #[]] w fun e w' => (∃ r : Int, e = .returned (.int .i64 r) ∧ ((0 ≤ r ∧ r ≤ 1048576 ∧ l.any badSpan = true) ∨ (r = -1 ∧ l.any badSpan = false))) ∧ Below w.heap.size w w' := by
  obtain ⟨p, c, rfl, _, _, r⟩ := h.form
  have R := Lib.hid r
  clear r h
  obtain ⟨n, hn⟩ : ∃ n : Nat, l.length = n := ⟨_, rfl⟩
  have Hn := Lib.hid hn
  rw [hn]
  have hnb : (n : Int) ≤ 1048576 := by omega
  clear hn hl
  go_enter Try.func136, Try.ntmps136
  go_wp2
  go_loopw [5, 8] (fun _ i wr => ∃ k : Nat, i = .int .i64 (k : Int) ∧ k ≤ n ∧ Hid (∀ j (h : j < l.length), j < k → badSpan l[j] = false) ∧ Below w.heap.size w wr) (fun _ i _ => n - (intOf i).toNat)
  case atStart => exact ⟨0, rfl, Nat.zero_le _, Lib.hid fun j _ h => by omega, Below.refl _ _⟩
  case round =>
    obtain ⟨k, rfl, hk, Hall, hb⟩ := hrel
    by_cases hlt : k < n
    · have hlt2 : (k : Int) < (n : Int) := by omega
      have hkl : k < l.length := by have := Hn.out; omega
      obtain ⟨g, o, rfl, hg, hc⟩ := R.out (by have := Hn.out; omega)
      have at0 := (hc k hkl).below hg hb
      have Hb : Hid (badSpan l[k] = true → l.any badSpan = true) := Lib.hid fun h => List.any_eq_true.2 ⟨l[k], List.getElem_mem hkl, h⟩
      have Hnx : Hid (badSpan l[k] = false → ∀ j (h : j < l.length), j < k + 1 → badSpan l[j] = false) := Lib.hid fun h j hj hjk => by
        by_cases e : j = k
        · subst e; exact h
        · exact Hall.out j hj (by omega)
      obtain ⟨x, es⟩ : ∃ x, l[k] = x := ⟨_, rfl⟩
      rw [es] at at0 Hb Hnx
      clear hc es hkl
      obtain ⟨d0, d1, zLow, zHigh⟩ := at_span at0
      rw [show o + k * Cod.span.size = o + k * 2 from rfl] at *
      clear at0
      have Hc := Lib.hid (meetCf_closure x)
      generalize badSpan x = b at *
      cases b
      · go_wp2_with fail
        refine (Hc.out _).mono ?_
        rintro e w1 ⟨rfl, k1⟩
        go_wp2
        go_roundw
        case rel => exact ⟨k + 1, by go_num, by omega, Lib.hid (Hnx.out (by first | rfl | trivial)), below_after k1 hb⟩
        case measure => simp [intOf]; omega
      · have Hq := Lib.hid (Hb.out (by first | rfl | trivial))
        go_wp2_with fail
        refine (Hc.out _).mono ?_
        rintro e w1 ⟨rfl, k1⟩
        go_wp2
        go_ret
        exact ⟨⟨_, rfl, Or.inl ⟨by omega, by omega, Hq.out⟩⟩, below_after k1 hb⟩
    · have hlt2 : (n : Int) ≤ (k : Int) := by omega
      obtain rfl : k = n := by omega
      have Hq : Hid (l.any badSpan = false) := Lib.hid (List.any_eq_false.2 fun x hx => by
        obtain ⟨j, hj, rfl⟩ := List.getElem_of_mem hx
        rw [Hall.out j hj (by have := Hn.out; omega)]
        simp)
      go_wp2
      go_ret
      exact ⟨⟨_, rfl, Or.inr ⟨rfl, Hq.out⟩⟩, hb⟩

/-- slices.ContainsFunc at the closure -/
theorem meetCf_any (v : Value) (l : List SpanD) (hl : l.length ≤ 1048576) (w : World) (h : Rd Cod.span w v l) :
    Calls Try.prog 84 #[v, .func (.func 85) #[] #[]] w fun e w' => e = .returned (.bool (l.any badSpan)) ∧ Below w.heap.size w w' := by
  have Hc := Lib.hid (meetCf_idx v l hl w h)
  generalize l.any badSpan = b at *
  go_enter Try.func84, Try.ntmps84
  go_wp2_with fail
  refine Hc.out.mono ?_
  rintro e w1 ⟨⟨r, rfl, hr⟩, k1⟩
  rcases hr with ⟨h0, h1, ha⟩ | ⟨rfl, ha⟩
  · have Ha := Lib.hid ha
    clear ha
    go_wp2
    go_ret
    exact ⟨ret_bool (by first | (rw [Ha.out]; done) | (rw [Ha.out]; simp; omega)), k1⟩
  · have Ha := Lib.hid ha
    clear ha
    go_wp2
    go_ret
    exact ⟨ret_bool (by first | (rw [Ha.out]; done) | (rw [Ha.out]; simp)), k1⟩

end Go.Proofs.Ytkgnogdbojefkaa
