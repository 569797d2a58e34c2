/- Lists of strings and of writes compared. -/
import Derived.Test.YtogdbjalgledpaaEqStruct2
import Derived.Test.YtogdbjalgledpaaRStr
namespace Go.Proofs.Ytogdbjalgledpaa
open Go.RowKit

theorem at_str {w : World} {g o k : Nat} {x : ByteArray} (h : At Cod.str w g (o + k * Cod.str.size) x) : w.cell? ⟨g, o + k, none⟩ = some (.string x) := by
  obtain ⟨f, h, _⟩ := h
  have h2 : w.cell? ⟨g, o + k * 1 + 0, none⟩ = some (.string x) := h
  rwa [Nat.mul_one] at h2

set_option maxRecDepth 100000 in
set_option maxHeartbeats 1600000 in
/-- slices.Equal[[]string,string] -/
theorem equalString_any (v1 v2 : Value) (l1 l2 : List ByteArray) (hl1 : l1.length ≤ 1048576) (_hl2 : l2.length ≤ 1048576) (w : World) (h1 : Rd Cod.str w v1 l1) (h2 : Rd Cod.str w v2 l2) :
    Calls Try.prog 141 #[v1, v2] w fun e w' => e = .returned (.bool (pB (l1 = l2))) ∧ Below w.heap.size w w' := by
  obtain ⟨p1, c1, rfl, _, _, r1⟩ := h1.form
  obtain ⟨p2, c2, rfl, _, _, r2⟩ := h2.form
  have R1 := Lib.hid r1
  have R2 := Lib.hid r2
  clear r1 r2 h1 h2
  by_cases hlen : l1.length = l2.length
  rotate_left
  · have Hq : Hid (pB (l1 = l2) = false) := Lib.hid (pB_false fun e => hlen (by rw [e]))
    clear R1 R2
    have hne : ¬ ((l1.length : Int) = (l2.length : Int)) := by omega
    generalize l1.length = n1 at *
    generalize l2.length = n2 at *
    go_enter Try.func141, Try.ntmps141
    go_wp2
    go_ret
    exact ⟨ret_bool (by rw [Hq.out]), Below.refl _ _⟩
  obtain ⟨n, hn⟩ : ∃ n : Nat, l1.length = n := ⟨_, rfl⟩
  have Hn1 := Lib.hid hn
  have Hn2 : Hid (l2.length = n) := Lib.hid (by omega)
  have hnb : (n : Int) ≤ 1048576 := by omega
  rw [← hlen, hn]
  clear hn hl1 hlen
  go_enter Try.func141, Try.ntmps141
  go_wp2
  go_loopw [13] (fun i wr => ∃ k : Nat, i = .int .i64 (k : Int) ∧ k ≤ n ∧ Hid (∀ j (a : j < l1.length) (b : j < l2.length), j < k → l1[j] = l2[j]) ∧ Below w.heap.size w wr) (fun i _ => n - (intOf i).toNat)
  case atStart => exact ⟨0, rfl, Nat.zero_le _, Lib.hid (fun j _ _ h => by omega), Below.refl _ _⟩
  case round =>
    obtain ⟨k, rfl, hk, Hall, hb⟩ := hrel
    by_cases hlt : k < n
    · have hlt2 : (k : Int) < (n : Int) := by omega
      have hk1 : k < l1.length := by have := Hn1.out; omega
      have hk2 : k < l2.length := by have := Hn2.out; omega
      obtain ⟨g1, o1, rfl, hg1, hc1⟩ := R1.out (by have := Hn1.out; omega)
      obtain ⟨g2, o2, rfl, hg2, hc2⟩ := R2.out (by have := Hn2.out; omega)
      have at1 := (hc1 k hk1).below hg1 hb
      have at2 := (hc2 k hk2).below hg2 hb
      have Hne : Hid (¬ l1[k] = l2[k] → pB (l1 = l2) = false) := Lib.hid fun h => pB_false fun e => h (by subst e; rfl)
      have Hnx : Hid (l1[k] = l2[k] → ∀ j (a : j < l1.length) (b : j < l2.length), j < k + 1 → l1[j] = l2[j]) := Lib.hid fun h j a b hj => by
        by_cases e : j = k
        · subst e; exact h
        · exact Hall.out j a b (by omega)
      obtain ⟨x, es⟩ : ∃ x, l1[k] = x := ⟨_, rfl⟩
      obtain ⟨y, et⟩ : ∃ y, l2[k] = y := ⟨_, rfl⟩
      rw [es] at at1 Hne Hnx
      rw [et] at at2 Hne Hnx
      clear hc1 hc2 es et hk1 hk2
      have d0 := at_str at1
      have e0 := at_str at2
      clear at1 at2
      by_cases hxy : x = y
      · have Hq := Lib.hid (Hnx.out hxy)
        clear Hne Hnx
        subst hxy
        go_wp2
        go_quiet (fail)
        skip
        go_wp2
        go_roundw
        case rel => exact ⟨k + 1, by go_num, by omega, Hq, below_drewN hb _⟩
        case measure => simp [intOf]; omega
      · have hne := str_ne hxy
        have Hq := Lib.hid (Hne.out hxy)
        clear Hne Hnx hxy
        go_wp2
        go_quiet (fail)
        clear hne
        go_wp2
        go_ret
        exact ⟨ret_bool (by rw [Hq.out]), below_drewN hb _⟩
    · have hlt2 : (n : Int) ≤ (k : Int) := by omega
      obtain rfl : k = n := by omega
      have Hq : Hid (pB (l1 = l2) = true) := Lib.hid (pB_true (List.ext_getElem (by rw [Hn1.out, Hn2.out]) fun j a b => Hall.out j a b (by have := Hn1.out; omega)))
      go_wp2
      go_ret
      exact ⟨ret_bool (by rw [Hq.out]), hb⟩

set_option maxRecDepth 100000 in
set_option maxHeartbeats 1600000 in
/-- spec.l1SameS -/
theorem l1SameS_any (v1 v2 : Value) (l1 l2 : List ByteArray) (hl1 : l1.length ≤ 1048576) (_hl2 : l2.length ≤ 1048576) (w : World) (h1 : Rd Cod.str w v1 l1) (h2 : Rd Cod.str w v2 l2) :
    Calls Try.prog 111 #[v1, v2] w fun e w' => e = .returned (.bool (pB (l1 = l2))) ∧ Below w.heap.size w w' := by
  obtain ⟨p1, c1, rfl, _, _, r1⟩ := h1.form
  obtain ⟨p2, c2, rfl, _, _, r2⟩ := h2.form
  have R1 := Lib.hid r1
  have R2 := Lib.hid r2
  clear r1 r2 h1 h2
  by_cases hlen : l1.length = l2.length
  rotate_left
  · have Hq : Hid (pB (l1 = l2) = false) := Lib.hid (pB_false fun e => hlen (by rw [e]))
    clear R1 R2
    have hne : ¬ ((l1.length : Int) = (l2.length : Int)) := by omega
    generalize l1.length = n1 at *
    generalize l2.length = n2 at *
    go_enter Try.func111, Try.ntmps111
    go_wp2
    go_ret
    exact ⟨ret_bool (by rw [Hq.out]), Below.refl _ _⟩
  obtain ⟨n, hn⟩ : ∃ n : Nat, l1.length = n := ⟨_, rfl⟩
  have Hn1 := Lib.hid hn
  have Hn2 : Hid (l2.length = n) := Lib.hid (by omega)
  have hnb : (n : Int) ≤ 1048576 := by omega
  rw [← hlen, hn]
  clear hn hl1 hlen
  go_enter Try.func111, Try.ntmps111
  go_wp2
  go_loopw [13] (fun i wr => ∃ k : Nat, i = .int .i64 (k : Int) ∧ k ≤ n ∧ Hid (∀ j (a : j < l1.length) (b : j < l2.length), j < k → l1[j] = l2[j]) ∧ Below w.heap.size w wr) (fun i _ => n - (intOf i).toNat)
  case atStart => exact ⟨0, rfl, Nat.zero_le _, Lib.hid (fun j _ _ h => by omega), Below.refl _ _⟩
  case round =>
    obtain ⟨k, rfl, hk, Hall, hb⟩ := hrel
    by_cases hlt : k < n
    · have hlt2 : (k : Int) < (n : Int) := by omega
      have hk1 : k < l1.length := by have := Hn1.out; omega
      have hk2 : k < l2.length := by have := Hn2.out; omega
      obtain ⟨g1, o1, rfl, hg1, hc1⟩ := R1.out (by have := Hn1.out; omega)
      obtain ⟨g2, o2, rfl, hg2, hc2⟩ := R2.out (by have := Hn2.out; omega)
      have at1 := (hc1 k hk1).below hg1 hb
      have at2 := (hc2 k hk2).below hg2 hb
      have Hne : Hid (¬ l1[k] = l2[k] → pB (l1 = l2) = false) := Lib.hid fun h => pB_false fun e => h (by subst e; rfl)
      have Hnx : Hid (l1[k] = l2[k] → ∀ j (a : j < l1.length) (b : j < l2.length), j < k + 1 → l1[j] = l2[j]) := Lib.hid fun h j a b hj => by
        by_cases e : j = k
        · subst e; exact h
        · exact Hall.out j a b (by omega)
      obtain ⟨x, es⟩ : ∃ x, l1[k] = x := ⟨_, rfl⟩
      obtain ⟨y, et⟩ : ∃ y, l2[k] = y := ⟨_, rfl⟩
      rw [es] at at1 Hne Hnx
      rw [et] at at2 Hne Hnx
      clear hc1 hc2 es et hk1 hk2
      have d0 := at_str at1
      have e0 := at_str at2
      clear at1 at2
      by_cases hxy : x = y
      · have Hq := Lib.hid (Hnx.out hxy)
        clear Hne Hnx
        subst hxy
        go_wp2
        go_quiet (fail)
        skip
        go_wp2
        go_roundw
        case rel => exact ⟨k + 1, by go_num, by omega, Hq, below_drewN hb _⟩
        case measure => simp [intOf]; omega
      · have hne := str_ne hxy
        have Hq := Lib.hid (Hne.out hxy)
        clear Hne Hnx hxy
        go_wp2
        go_quiet (fail)
        clear hne
        go_wp2
        go_ret
        exact ⟨ret_bool (by rw [Hq.out]), below_drewN hb _⟩
    · have hlt2 : (n : Int) ≤ (k : Int) := by omega
      obtain rfl : k = n := by omega
      have Hq : Hid (pB (l1 = l2) = true) := Lib.hid (pB_true (List.ext_getElem (by rw [Hn1.out, Hn2.out]) fun j a b => Hall.out j a b (by have := Hn1.out; omega)))
      go_wp2
      go_ret
      exact ⟨ret_bool (by rw [Hq.out]), hb⟩

set_option maxRecDepth 100000 in
set_option maxHeartbeats 1600000 in
/-- spec.l4SameW -/
theorem l4SameW_any (v1 v2 : Value) (l1 l2 : List WriteD) (hl1 : l1.length ≤ 1048576) (_hl2 : l2.length ≤ 1048576) (w : World) (h1 : Rd Cod.write w v1 l1) (h2 : Rd Cod.write w v2 l2) :
    Calls Try.prog 112 #[v1, v2] w fun e w' => e = .returned (.bool (pB (l1 = l2))) ∧ Below w.heap.size w w' := by
  obtain ⟨p1, c1, rfl, _, _, r1⟩ := h1.form
  obtain ⟨p2, c2, rfl, _, _, r2⟩ := h2.form
  have R1 := Lib.hid r1
  have R2 := Lib.hid r2
  clear r1 r2 h1 h2
  by_cases hlen : l1.length = l2.length
  rotate_left
  · have Hq : Hid (pB (l1 = l2) = false) := Lib.hid (pB_false fun e => hlen (by rw [e]))
    clear R1 R2
    have hne : ¬ ((l1.length : Int) = (l2.length : Int)) := by omega
    generalize l1.length = n1 at *
    generalize l2.length = n2 at *
    go_enter Try.func112, Try.ntmps112
    go_wp2
    go_ret
    exact ⟨ret_bool (by rw [Hq.out]), Below.refl _ _⟩
  obtain ⟨n, hn⟩ : ∃ n : Nat, l1.length = n := ⟨_, rfl⟩
  have Hn1 := Lib.hid hn
  have Hn2 : Hid (l2.length = n) := Lib.hid (by omega)
  have hnb : (n : Int) ≤ 1048576 := by omega
  rw [← hlen, hn]
  clear hn hl1 hlen
  go_enter Try.func112, Try.ntmps112
  go_wp2
  go_loopw [13] (fun i wr => ∃ k : Nat, i = .int .i64 (k : Int) ∧ k ≤ n ∧ Hid (∀ j (a : j < l1.length) (b : j < l2.length), j < k → l1[j] = l2[j]) ∧ Below w.heap.size w wr) (fun i _ => n - (intOf i).toNat)
  case atStart => exact ⟨0, rfl, Nat.zero_le _, Lib.hid (fun j _ _ h => by omega), Below.refl _ _⟩
  case round =>
    obtain ⟨k, rfl, hk, Hall, hb⟩ := hrel
    by_cases hlt : k < n
    · have hlt2 : (k : Int) < (n : Int) := by omega
      have hk1 : k < l1.length := by have := Hn1.out; omega
      have hk2 : k < l2.length := by have := Hn2.out; omega
      obtain ⟨g1, o1, rfl, hg1, hc1⟩ := R1.out (by have := Hn1.out; omega)
      obtain ⟨g2, o2, rfl, hg2, hc2⟩ := R2.out (by have := Hn2.out; omega)
      have at1 := (hc1 k hk1).below hg1 hb
      have at2 := (hc2 k hk2).below hg2 hb
      have Hne : Hid (¬ l1[k] = l2[k] → pB (l1 = l2) = false) := Lib.hid fun h => pB_false fun e => h (by subst e; rfl)
      have Hnx : Hid (l1[k] = l2[k] → ∀ j (a : j < l1.length) (b : j < l2.length), j < k + 1 → l1[j] = l2[j]) := Lib.hid fun h j a b hj => by
        by_cases e : j = k
        · subst e; exact h
        · exact Hall.out j a b (by omega)
      obtain ⟨x, es⟩ : ∃ x, l1[k] = x := ⟨_, rfl⟩
      obtain ⟨y, et⟩ : ∃ y, l2[k] = y := ⟨_, rfl⟩
      rw [es] at at1 Hne Hnx
      rw [et] at at2 Hne Hnx
      clear hc1 hc2 es et hk1 hk2
      obtain ⟨d0, d1, d2, _, _⟩ := at_write at1
      obtain ⟨e0, e1, e2, _, _⟩ := at_write at2
      rw [show o1 + k * Cod.write.size = o1 + k * 3 from rfl, show o2 + k * Cod.write.size = o2 + k * 3 from rfl] at *
      clear at1 at2
      have hne := neq_write x y
      have hgd := fun (W : World) (a b : Operand) (xs ys : Array Value) => run_eqGuard_agg (P := Try.prog) W .neq 112 a b xs ys (by kernel_rfl)
      by_cases hxy : x = y
      · rw [pB_true hxy] at hne
        have Hq := Lib.hid (Hnx.out hxy)
        clear Hne Hnx hxy
        go_wp2
        go_quiet (fail)
        clear hne hgd
        go_wp2
        go_roundw
        case rel => exact ⟨k + 1, by go_num, by omega, Hq, below_drewN hb _⟩
        case measure => simp [intOf]; omega
      · rw [pB_false hxy] at hne
        have Hq := Lib.hid (Hne.out hxy)
        clear Hne Hnx hxy
        go_wp2
        go_quiet (fail)
        clear hne hgd
        go_wp2
        go_ret
        exact ⟨ret_bool (by rw [Hq.out]), below_drewN hb _⟩
    · have hlt2 : (n : Int) ≤ (k : Int) := by omega
      obtain rfl : k = n := by omega
      have Hq : Hid (pB (l1 = l2) = true) := Lib.hid (pB_true (List.ext_getElem (by rw [Hn1.out, Hn2.out]) fun j a b => Hall.out j a b (by have := Hn1.out; omega)))
      go_wp2
      go_ret
      exact ⟨ret_bool (by rw [Hq.out]), hb⟩

end Go.Proofs.Ytogdbjalgledpaa
