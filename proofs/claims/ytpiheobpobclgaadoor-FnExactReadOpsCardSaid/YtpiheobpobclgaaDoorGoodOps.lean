/- GoodOps, both. -/
import Derived.Test.YtpiheobpobclgaaDoorOpV
import Derived.Test.YtpiheobpobclgaaDoorOpB
import Derived.Test.YtpiheobpobclgaaDoorOpP
import Derived.Test.YtpiheobpobclgaaDoorOpN
import Derived.Test.YtpiheobpobclgaaDoorOpSV
import Derived.Test.YtpiheobpobclgaaDoorOpSB
import Derived.Test.YtpiheobpobclgaaDoorOpSP
namespace Go.Proofs.YtpiheobpobclgaaDoor
open Go.RowKit

/-- impl.isOp -/
theorem isOp_any (x : OpD) (h1 : x.Key.size ≤ maxLen) (h2 : x.Val.size ≤ maxLen) (w : World) : Calls Tryd.prog 55 #[.agg #[.int .i64 x.Kind, .string x.Key, .string x.Val, .int .i64 x.By]] w fun e w' => e = .returned (.bool (opB x)) ∧ Below w.heap.size w w' := by
  rcases kinds x.Kind with h | h | h | h
  · exact isOpV x.Kind x.Key x.Val x.By h h1 h2 w
  · exact isOpB x.Kind x.Key x.Val x.By h h1 h2 w
  · exact isOpP x.Kind x.Key x.Val x.By h h1 h2 w
  · exact isOpN x.Kind x.Key x.Val x.By h h1 h2 w

/-- spec.l5Op -/
theorem l5Op_any (x : OpD) (h1 : x.Key.size ≤ maxLen) (h2 : x.Val.size ≤ maxLen) (w : World) : Calls Tryd.prog 50 #[.agg #[.int .i64 x.Kind, .string x.Key, .string x.Val, .int .i64 x.By]] w fun e w' => e = .returned (.bool (opB x)) ∧ Below w.heap.size w w' := by
  rcases kinds x.Kind with h | h | h | h
  · exact l5OpV x.Kind x.Key x.Val x.By h h1 h2 w
  · exact l5OpB x.Kind x.Key x.Val x.By h h1 h2 w
  · exact l5OpP x.Kind x.Key x.Val x.By h h1 h2 w
  · exact l5OpN x.Kind x.Key x.Val x.By h h1 h2 w

/-- Whether an operation is bad. -/
def badOp (x : OpD) : Bool := !opB x
/-- Whether a program is good. -/
def goodOB (l : List OpD) : Bool := decide (l.length ≤ 8) && !l.any badOp

/-- the closure of impl.GoodOps -/
theorem goCf_closure (x : OpD) (zKey : x.Key.size ≤ maxLen) (zVal : x.Val.size ≤ maxLen) (w : World) : Calls Tryd.prog 54 #[.agg #[.int .i64 x.Kind, .string x.Key, .string x.Val, .int .i64 x.By]] w fun e w' => e = .returned (.bool (badOp x)) ∧ Below w.heap.size w w' := by
  have Hc := Lib.hid (isOp_any x zKey zVal)
  unfold badOp
  generalize opB x = q at *
  go_enter Tryd.func54, Tryd.ntmps54
  go_wp2_with (go_at_call 55; refine (Hc.out _).mono ?_; rintro e w1 ⟨rfl, k1⟩)
  go_ret
  exact ⟨rfl, by (repeat (first | (with_reducible exact Below.refl _ _) | (with_reducible refine below_setCell ?_ (by first | (simp; done) | (simp; omega) | omega)) | (with_reducible refine below_alloc _ ?_) | (with_reducible refine below_drewN ?_ _) | (with_reducible assumption) | (with_reducible refine below_after (by assumption) ?_)))⟩

set_option maxRecDepth 100000 in
set_option maxHeartbeats 800000 in
/-- slices.IndexFunc at the closure -/
theorem goCf_idx (v : Value) (l : List OpD) (hl : l.length ≤ 1048576) (w : World) (h : Rd Cod.op w v l) :
    Calls Tryd.prog 78 #[v, .func (.func 54) #[] #[]] w fun e w' => (∃ r : Int, e = .returned (.int .i64 r) ∧ ((0 ≤ r ∧ r ≤ 1048576 ∧ l.any badOp = true) ∨ (r = -1 ∧ l.any badOp = false))) ∧ Below w.heap.size w w' := by
  obtain ⟨p, c, rfl, _, _, r⟩ := h.form
  have R := Lib.hid r
  clear r h
  obtain ⟨n, hn⟩ : ∃ n : Nat, l.length = n := ⟨_, rfl⟩
  have Hn := Lib.hid hn
  rw [hn]
  have hnb : (n : Int) ≤ 1048576 := by omega
  clear hn hl
  go_enter Tryd.func78, Tryd.ntmps78
  go_wp2
  go_loopw [5, 8] (fun _ i wr => ∃ k : Nat, i = .int .i64 (k : Int) ∧ k ≤ n ∧ Hid (∀ j (h : j < l.length), j < k → badOp l[j] = false) ∧ Below w.heap.size w wr) (fun _ i _ => n - (intOf i).toNat)
  case atStart => exact ⟨0, rfl, Nat.zero_le _, Lib.hid fun j _ h => by omega, Below.refl _ _⟩
  case round =>
    obtain ⟨k, rfl, hk, Hall, hb⟩ := hrel
    by_cases hlt : k < n
    · have hlt2 : (k : Int) < (n : Int) := by omega
      have hkl : k < l.length := by have := Hn.out; omega
      obtain ⟨g, o, rfl, hg, hc⟩ := R.out (by have := Hn.out; omega)
      have at0 := (hc k hkl).below hg hb
      have Hb : Hid (badOp l[k] = true → l.any badOp = true) := Lib.hid fun h => List.any_eq_true.2 ⟨l[k], List.getElem_mem hkl, h⟩
      have Hnx : Hid (badOp l[k] = false → ∀ j (h : j < l.length), j < k + 1 → badOp l[j] = false) := Lib.hid fun h j hj hjk => by
        by_cases e : j = k
        · subst e; exact h
        · exact Hall.out j hj (by omega)
      obtain ⟨x, es⟩ : ∃ x, l[k] = x := ⟨_, rfl⟩
      rw [es] at at0 Hb Hnx
      clear hc es hkl
      obtain ⟨d0, d1, d2, d3, zKind, zKey, zVal, zBy⟩ := at_op at0
      rw [show o + k * Cod.op.size = o + k * 4 from rfl] at *
      clear at0
      have Hc := Lib.hid (goCf_closure x zKey zVal)
      generalize badOp x = b at *
      cases b
      · go_wp2_with fail
        refine (Hc.out _).mono ?_
        rintro e w1 ⟨rfl, k1⟩
        go_wp2
        go_roundw
        case rel => exact ⟨k + 1, by go_num, by omega, Lib.hid (Hnx.out (by first | rfl | trivial)), below_after k1 hb⟩
        case measure => simp [intOf]; omega
      · have Hq := Lib.hid (Hb.out (by first | rfl | trivial))
        go_wp2_with fail
        refine (Hc.out _).mono ?_
        rintro e w1 ⟨rfl, k1⟩
        go_wp2
        go_ret
        exact ⟨⟨_, rfl, Or.inl ⟨by omega, by omega, Hq.out⟩⟩, below_after k1 hb⟩
    · have hlt2 : (n : Int) ≤ (k : Int) := by omega
      obtain rfl : k = n := by omega
      have Hq : Hid (l.any badOp = false) := Lib.hid (List.any_eq_false.2 fun x hx => by
        obtain ⟨j, hj, rfl⟩ := List.getElem_of_mem hx
        rw [Hall.out j hj (by have := Hn.out; omega)]
        simp)
      go_wp2
      go_ret
      exact ⟨⟨_, rfl, Or.inr ⟨rfl, Hq.out⟩⟩, hb⟩

/-- slices.ContainsFunc at the closure -/
theorem goCf_any (v : Value) (l : List OpD) (hl : l.length ≤ 1048576) (w : World) (h : Rd Cod.op w v l) :
    Calls Tryd.prog 53 #[v, .func (.func 54) #[] #[]] w fun e w' => e = .returned (.bool (l.any badOp)) ∧ Below w.heap.size w w' := by
  have Hc := Lib.hid (goCf_idx v l hl w h)
  generalize l.any badOp = b at *
  go_enter Tryd.func53, Tryd.ntmps53
  go_wp2_with fail
  refine Hc.out.mono ?_
  rintro e w1 ⟨⟨r, rfl, hr⟩, k1⟩
  rcases hr with ⟨h0, h1, ha⟩ | ⟨rfl, ha⟩
  · have Ha := Lib.hid ha
    clear ha
    go_wp2
    go_ret
    exact ⟨ret_bool (by first | (rw [Ha.out]; done) | (rw [Ha.out]; simp; omega)), k1⟩
  · have Ha := Lib.hid ha
    clear ha
    go_wp2
    go_ret
    exact ⟨ret_bool (by first | (rw [Ha.out]; done) | (rw [Ha.out]; simp)), k1⟩

set_option maxRecDepth 100000 in
/-- impl.GoodOps -/
theorem goodOps_any (v : Value) (l : List OpD) (hl : l.length ≤ 1048576) (w : World) (h : Rd Cod.op w v l) :
    Calls Tryd.prog 27 #[v] w fun e w' => e = .returned (.bool (goodOB l)) ∧ Below w.heap.size w w' := by
  have Hc := Lib.hid (goCf_any v l hl w h)
  obtain ⟨p, c, rfl, _, _, rr⟩ := h.form
  clear h rr
  unfold goodOB
  generalize l.any badOp = q at *
  generalize l.length = n at *
  have hnb : (n : Int) ≤ 1048576 := by omega
  by_cases h8 : n ≤ 8
  · have h9 : (n : Int) ≤ 8 := by omega
    rw [show decide (n ≤ 8) = true from by simpa using h8]
    clear h8
    go_enter Tryd.func27, Tryd.ntmps27
    go_wp2_with fail
    refine Hc.out.mono ?_
    rintro e w1 ⟨rfl, k1⟩
    go_wp2
    go_ret
    exact ⟨ret_bool (by cases q <;> rfl), k1⟩
  · have h9 : (8 : Int) < (n : Int) := by omega
    rw [show decide (n ≤ 8) = false from by simpa using h8]
    clear h8
    go_enter Tryd.func27, Tryd.ntmps27
    go_wp2
    go_ret
    exact ⟨ret_bool (by first | rfl | (simp; omega)), Below.refl _ _⟩

set_option maxRecDepth 100000 in
set_option maxHeartbeats 800000 in
/-- spec.l5Good -/
theorem l5Good_any (v : Value) (l : List OpD) (hl : l.length ≤ 1048576) (w : World) (h : Rd Cod.op w v l) :
    Calls Tryd.prog 24 #[v] w fun e w' => e = .returned (.bool (goodOB l)) ∧ Below w.heap.size w w' := by
  obtain ⟨p, c, rfl, _, _, r⟩ := h.form
  have R := Lib.hid r
  clear r h
  obtain ⟨n, hn⟩ : ∃ n : Nat, l.length = n := ⟨_, rfl⟩
  have Hn := Lib.hid hn
  rw [hn]
  have hnb : (n : Int) ≤ 1048576 := by omega
  clear hn hl
  go_enter Tryd.func24, Tryd.ntmps24
  go_wp2
  go_loopw [7] (fun i wr => ∃ k : Nat, i = .int .i64 (k : Int) ∧ k ≤ n ∧ Hid (∀ j (h : j < l.length), j < k → badOp l[j] = false) ∧ Below w.heap.size w wr) (fun i _ => n - (intOf i).toNat)
  case atStart => exact ⟨0, rfl, Nat.zero_le _, Lib.hid fun j _ h => by omega, Below.refl _ _⟩
  case round =>
    obtain ⟨k, rfl, hk, Hall, hb⟩ := hrel
    by_cases hlt : k < n
    · have hlt2 : (k : Int) < (n : Int) := by omega
      have hkl : k < l.length := by have := Hn.out; omega
      obtain ⟨g, o, rfl, hg, hc⟩ := R.out (by have := Hn.out; omega)
      have at0 := (hc k hkl).below hg hb
      have Hb : Hid (opB l[k] = false → goodOB l = false) := Lib.hid fun h => by
        have h2 : l.any badOp = true := List.any_eq_true.2 ⟨l[k], List.getElem_mem hkl, by unfold badOp; rw [h]; rfl⟩
        unfold goodOB
        rw [h2]
        simp
      have Hnx : Hid (opB l[k] = true → ∀ j (h : j < l.length), j < k + 1 → badOp l[j] = false) := Lib.hid fun h j hj hjk => by
        by_cases e : j = k
        · subst e; unfold badOp; rw [h]; rfl
        · exact Hall.out j hj (by omega)
      obtain ⟨x, es⟩ : ∃ x, l[k] = x := ⟨_, rfl⟩
      rw [es] at at0 Hb Hnx
      clear hc es hkl
      obtain ⟨d0, d1, d2, d3, z0, z1, z2, z3⟩ := at_op at0
      rw [show o + k * Cod.op.size = o + k * 4 from rfl] at *
      have Hc := Lib.hid (l5Op_any x z1 z2)
      clear at0 z0 z1 z2 z3
      generalize opB x = b at *
      cases b
      · have Hq := Lib.hid (Hb.out (by first | rfl | trivial))
        go_wp2_with fail
        refine (Hc.out _).mono ?_
        rintro e w1 ⟨rfl, k1⟩
        go_wp2
        go_ret
        exact ⟨ret_bool (by rw [Hq.out]), below_after k1 (below_alloc _ hb)⟩
      · have Hq := Lib.hid (Hnx.out (by first | rfl | trivial))
        go_wp2_with fail
        refine (Hc.out _).mono ?_
        rintro e w1 ⟨rfl, k1⟩
        go_wp2
        go_roundw
        case rel => exact ⟨k + 1, by go_num, by omega, Hq, below_after k1 (below_alloc _ hb)⟩
        case measure => simp [intOf]; omega
    · have hlt2 : (n : Int) ≤ (k : Int) := by omega
      obtain rfl : k = n := by omega
      have Hany : Hid (l.any badOp = false) := Lib.hid (List.any_eq_false.2 fun x hx => by
        obtain ⟨j, hj, rfl⟩ := List.getElem_of_mem hx
        rw [Hall.out j hj (by have := Hn.out; omega)]
        simp)
      by_cases h8 : k ≤ 8
      · have h9 : (k : Int) ≤ 8 := by omega
        have Hq : Hid (goodOB l = true) := Lib.hid (by unfold goodOB; rw [Hany.out, show decide (l.length ≤ 8) = true from by rw [Hn.out]; simpa using h8]; rfl)
        go_wp2
        go_ret
        exact ⟨ret_bool (by rw [Hq.out]), hb⟩
      · have h9 : (8 : Int) < (k : Int) := by omega
        have Hq : Hid (goodOB l = false) := Lib.hid (by unfold goodOB; rw [show decide (l.length ≤ 8) = false from by rw [Hn.out]; simpa using h8]; rfl)
        go_wp2
        go_ret
        exact ⟨ret_bool (by first | (rw [Hq.out]; done) | (rw [Hq.out]; simp; omega)), hb⟩

end Go.Proofs.YtpiheobpobclgaaDoor
