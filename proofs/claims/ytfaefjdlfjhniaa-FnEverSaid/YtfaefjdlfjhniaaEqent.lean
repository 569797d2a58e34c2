/- Plain lemmas and contracts that all proofs of this seat lean on: bundle Eqent. -/
import Derived.Test.YtfaefjdlfjhniaaKit
import Derived.Test.YtfaefjdlfjhniaaRowd
import Derived.Laws.StructEq
import Derived.Test.YtfaefjdlfjhniaaGoodr
import Derived.Test.YtfaefjdlfjhniaaLogg
/- Structs compared. -/
namespace Go.Proofs.Ytfaefjdlfjhniaa
open Go.RowKit

theorem ver_ext (x y : VerD) : ((x.Time == y.Time) && (x.Val.toList == y.Val.toList) && (x.Gone == y.Gone)) = pB (x = y) := by
  refine (pB_eq ?_).symm
  obtain ⟨xTime, xVal, xGone⟩ := x
  obtain ⟨yTime, yVal, yGone⟩ := y
  simp only [VerD.mk.injEq, Bool.and_eq_true, beq_iff_eq, str_eq_iff]
  first | done | (constructor <;> (intro h; simp_all))


theorem write_ext (x y : WriteD) : ((x.Key.toList == y.Key.toList) && (x.Val.toList == y.Val.toList) && (x.Gone == y.Gone)) = pB (x = y) := by
  refine (pB_eq ?_).symm
  obtain ⟨xKey, xVal, xGone⟩ := x
  obtain ⟨yKey, yVal, yGone⟩ := y
  simp only [WriteD.mk.injEq, Bool.and_eq_true, beq_iff_eq, str_eq_iff]
  first | done | (constructor <;> (intro h; simp_all))

set_option maxRecDepth 100000 in
/-- != of two such structs. -/
theorem neq_write (x y : WriteD) (W : World) : (binOp .neq 79 (.agg #[.string x.Key, .string x.Val, .bool x.Gone]) (.agg #[.string y.Key, .string y.Val, .bool y.Gone])).run Try.prog W = .ok (.bool (!pB (x = y))) W := by
  rw [← write_ext, run_neq_struct, run_equalIn_agg W 9999 79 _ _ (by rw [Program.fieldsOf, Try.underlying79]) (by kernel_rfl)]
  rw [Program.fieldsOf, Try.underlying79]
  simp [Op.eqFields, go_sem]
  by_cases h0 : x.Key.toList = y.Key.toList <;> by_cases h1 : x.Val.toList = y.Val.toList <;> by_cases h2 : x.Gone = y.Gone <;> simp [h0, h1, h2]


end Go.Proofs.Ytfaefjdlfjhniaa


/- slices.Equal at structs. -/
namespace Go.Proofs.Ytfaefjdlfjhniaa
open Go.RowKit

set_option maxRecDepth 100000 in
set_option maxHeartbeats 1600000 in
/-- slices.Equal -/
theorem equalWrite_any (v1 v2 : Value) (l1 l2 : List WriteD) (hl1 : l1.length ≤ 1048576) (_hl2 : l2.length ≤ 1048576) (w : World) (h1 : Rd Cod.write w v1 l1) (h2 : Rd Cod.write w v2 l2) :
    Calls Try.prog 93 #[v1, v2] w fun e w' => e = .returned (.bool (pB (l1 = l2))) ∧ Below w.heap.size w w' := by
  obtain ⟨p1, c1, rfl, _, _, r1⟩ := h1.form
  obtain ⟨p2, c2, rfl, _, _, r2⟩ := h2.form
  have R1 := Lib.hid r1
  have R2 := Lib.hid r2
  clear r1 r2 h1 h2
  by_cases hlen : l1.length = l2.length
  rotate_left
  · have Hq : Hid (pB (l1 = l2) = false) := Lib.hid (pB_false fun e => hlen (by rw [e]))
    clear R1 R2
    have hne : ¬ ((l1.length : Int) = (l2.length : Int)) := by omega
    generalize l1.length = n1 at *
    generalize l2.length = n2 at *
    go_enter Try.func93, Try.ntmps93
    go_wp2
    go_ret
    exact ⟨ret_bool (by rw [Hq.out]), Below.refl _ _⟩
  obtain ⟨n, hn⟩ : ∃ n : Nat, l1.length = n := ⟨_, rfl⟩
  have Hn1 := Lib.hid hn
  have Hn2 : Hid (l2.length = n) := Lib.hid (by omega)
  have hnb : (n : Int) ≤ 1048576 := by omega
  rw [← hlen, hn]
  clear hn hl1 hlen
  go_enter Try.func93, Try.ntmps93
  go_wp2
  go_loopw [13] (fun i wr => ∃ k : Nat, i = .int .i64 (k : Int) ∧ k ≤ n ∧ Hid (∀ j (a : j < l1.length) (b : j < l2.length), j < k → l1[j] = l2[j]) ∧ Below w.heap.size w wr) (fun i _ => n - (intOf i).toNat)
  case atStart => exact ⟨0, rfl, Nat.zero_le _, Lib.hid (fun j _ _ h => by omega), Below.refl _ _⟩
  case round =>
    obtain ⟨k, rfl, hk, Hall, hb⟩ := hrel
    by_cases hlt : k < n
    · have hlt2 : (k : Int) < (n : Int) := by omega
      have hk1 : k < l1.length := by have := Hn1.out; omega
      have hk2 : k < l2.length := by have := Hn2.out; omega
      obtain ⟨g1, o1, rfl, hg1, hc1⟩ := R1.out (by have := Hn1.out; omega)
      obtain ⟨g2, o2, rfl, hg2, hc2⟩ := R2.out (by have := Hn2.out; omega)
      have at1 := (hc1 k hk1).below hg1 hb
      have at2 := (hc2 k hk2).below hg2 hb
      have Hne : Hid (¬ l1[k] = l2[k] → pB (l1 = l2) = false) := Lib.hid fun h => pB_false fun e => h (by subst e; rfl)
      have Hnx : Hid (l1[k] = l2[k] → ∀ j (a : j < l1.length) (b : j < l2.length), j < k + 1 → l1[j] = l2[j]) := Lib.hid fun h j a b hj => by
        by_cases e : j = k
        · subst e; exact h
        · exact Hall.out j a b (by omega)
      obtain ⟨x, es⟩ : ∃ x, l1[k] = x := ⟨_, rfl⟩
      obtain ⟨y, et⟩ : ∃ y, l2[k] = y := ⟨_, rfl⟩
      rw [es] at at1 Hne Hnx
      rw [et] at at2 Hne Hnx
      clear hc1 hc2 es et hk1 hk2
      obtain ⟨d0, d1, d2, _, _⟩ := at_write at1
      obtain ⟨e0, e1, e2, _, _⟩ := at_write at2
      rw [show o1 + k * Cod.write.size = o1 + k * 3 from rfl, show o2 + k * Cod.write.size = o2 + k * 3 from rfl] at *
      clear at1 at2
      have hne := neq_write x y
      have hgd := fun (W : World) (a b : Operand) (xs ys : Array Value) => run_eqGuard_agg (P := Try.prog) W .neq 79 a b xs ys (by kernel_rfl)
      by_cases hxy : x = y
      · rw [pB_true hxy] at hne
        have Hq := Lib.hid (Hnx.out hxy)
        clear Hne Hnx hxy
        go_wp2
        go_quiet (fail)
        clear hne hgd
        go_wp2
        go_roundw
        case rel => exact ⟨k + 1, by go_num, by omega, Hq, below_drewN hb _⟩
        case measure => simp [intOf]; omega
      · rw [pB_false hxy] at hne
        have Hq := Lib.hid (Hne.out hxy)
        clear Hne Hnx hxy
        go_wp2
        go_quiet (fail)
        clear hne hgd
        go_wp2
        go_ret
        exact ⟨ret_bool (by rw [Hq.out]), below_drewN hb _⟩
    · have hlt2 : (n : Int) ≤ (k : Int) := by omega
      obtain rfl : k = n := by omega
      have Hq : Hid (pB (l1 = l2) = true) := Lib.hid (pB_true (List.ext_getElem (by rw [Hn1.out, Hn2.out]) fun j a b => Hall.out j a b (by have := Hn1.out; omega)))
      go_wp2
      go_ret
      exact ⟨ret_bool (by rw [Hq.out]), hb⟩

end Go.Proofs.Ytfaefjdlfjhniaa


/- Lists of strings and of writes compared. -/
namespace Go.Proofs.Ytfaefjdlfjhniaa
open Go.RowKit

theorem at_str {w : World} {g o k : Nat} {x : ByteArray} (h : At Cod.str w g (o + k * Cod.str.size) x) : w.cell? ⟨g, o + k, none⟩ = some (.string x) := by
  obtain ⟨f, h, _⟩ := h
  have h2 : w.cell? ⟨g, o + k * 1 + 0, none⟩ = some (.string x) := h
  rwa [Nat.mul_one] at h2

set_option maxRecDepth 100000 in
set_option maxHeartbeats 1600000 in
/-- slices.Equal[[]string,string] -/
theorem equalString_any (v1 v2 : Value) (l1 l2 : List ByteArray) (hl1 : l1.length ≤ 1048576) (_hl2 : l2.length ≤ 1048576) (w : World) (h1 : Rd Cod.str w v1 l1) (h2 : Rd Cod.str w v2 l2) :
    Calls Try.prog 92 #[v1, v2] w fun e w' => e = .returned (.bool (pB (l1 = l2))) ∧ Below w.heap.size w w' := by
  obtain ⟨p1, c1, rfl, _, _, r1⟩ := h1.form
  obtain ⟨p2, c2, rfl, _, _, r2⟩ := h2.form
  have R1 := Lib.hid r1
  have R2 := Lib.hid r2
  clear r1 r2 h1 h2
  by_cases hlen : l1.length = l2.length
  rotate_left
  · have Hq : Hid (pB (l1 = l2) = false) := Lib.hid (pB_false fun e => hlen (by rw [e]))
    clear R1 R2
    have hne : ¬ ((l1.length : Int) = (l2.length : Int)) := by omega
    generalize l1.length = n1 at *
    generalize l2.length = n2 at *
    go_enter Try.func92, Try.ntmps92
    go_wp2
    go_ret
    exact ⟨ret_bool (by rw [Hq.out]), Below.refl _ _⟩
  obtain ⟨n, hn⟩ : ∃ n : Nat, l1.length = n := ⟨_, rfl⟩
  have Hn1 := Lib.hid hn
  have Hn2 : Hid (l2.length = n) := Lib.hid (by omega)
  have hnb : (n : Int) ≤ 1048576 := by omega
  rw [← hlen, hn]
  clear hn hl1 hlen
  go_enter Try.func92, Try.ntmps92
  go_wp2
  go_loopw [13] (fun i wr => ∃ k : Nat, i = .int .i64 (k : Int) ∧ k ≤ n ∧ Hid (∀ j (a : j < l1.length) (b : j < l2.length), j < k → l1[j] = l2[j]) ∧ Below w.heap.size w wr) (fun i _ => n - (intOf i).toNat)
  case atStart => exact ⟨0, rfl, Nat.zero_le _, Lib.hid (fun j _ _ h => by omega), Below.refl _ _⟩
  case round =>
    obtain ⟨k, rfl, hk, Hall, hb⟩ := hrel
    by_cases hlt : k < n
    · have hlt2 : (k : Int) < (n : Int) := by omega
      have hk1 : k < l1.length := by have := Hn1.out; omega
      have hk2 : k < l2.length := by have := Hn2.out; omega
      obtain ⟨g1, o1, rfl, hg1, hc1⟩ := R1.out (by have := Hn1.out; omega)
      obtain ⟨g2, o2, rfl, hg2, hc2⟩ := R2.out (by have := Hn2.out; omega)
      have at1 := (hc1 k hk1).below hg1 hb
      have at2 := (hc2 k hk2).below hg2 hb
      have Hne : Hid (¬ l1[k] = l2[k] → pB (l1 = l2) = false) := Lib.hid fun h => pB_false fun e => h (by subst e; rfl)
      have Hnx : Hid (l1[k] = l2[k] → ∀ j (a : j < l1.length) (b : j < l2.length), j < k + 1 → l1[j] = l2[j]) := Lib.hid fun h j a b hj => by
        by_cases e : j = k
        · subst e; exact h
        · exact Hall.out j a b (by omega)
      obtain ⟨x, es⟩ : ∃ x, l1[k] = x := ⟨_, rfl⟩
      obtain ⟨y, et⟩ : ∃ y, l2[k] = y := ⟨_, rfl⟩
      rw [es] at at1 Hne Hnx
      rw [et] at at2 Hne Hnx
      clear hc1 hc2 es et hk1 hk2
      have d0 := at_str at1
      have e0 := at_str at2
      clear at1 at2
      by_cases hxy : x = y
      · have Hq := Lib.hid (Hnx.out hxy)
        clear Hne Hnx
        subst hxy
        go_wp2
        go_quiet (fail)
        skip
        go_wp2
        go_roundw
        case rel => exact ⟨k + 1, by go_num, by omega, Hq, below_drewN hb _⟩
        case measure => simp [intOf]; omega
      · have hne := str_ne hxy
        have Hq := Lib.hid (Hne.out hxy)
        clear Hne Hnx hxy
        go_wp2
        go_quiet (fail)
        clear hne
        go_wp2
        go_ret
        exact ⟨ret_bool (by rw [Hq.out]), below_drewN hb _⟩
    · have hlt2 : (n : Int) ≤ (k : Int) := by omega
      obtain rfl : k = n := by omega
      have Hq : Hid (pB (l1 = l2) = true) := Lib.hid (pB_true (List.ext_getElem (by rw [Hn1.out, Hn2.out]) fun j a b => Hall.out j a b (by have := Hn1.out; omega)))
      go_wp2
      go_ret
      exact ⟨ret_bool (by rw [Hq.out]), hb⟩

set_option maxRecDepth 100000 in
set_option maxHeartbeats 1600000 in
/-- spec.l1SameS -/
theorem l1SameS_any (v1 v2 : Value) (l1 l2 : List ByteArray) (hl1 : l1.length ≤ 1048576) (_hl2 : l2.length ≤ 1048576) (w : World) (h1 : Rd Cod.str w v1 l1) (h2 : Rd Cod.str w v2 l2) :
    Calls Try.prog 68 #[v1, v2] w fun e w' => e = .returned (.bool (pB (l1 = l2))) ∧ Below w.heap.size w w' := by
  obtain ⟨p1, c1, rfl, _, _, r1⟩ := h1.form
  obtain ⟨p2, c2, rfl, _, _, r2⟩ := h2.form
  have R1 := Lib.hid r1
  have R2 := Lib.hid r2
  clear r1 r2 h1 h2
  by_cases hlen : l1.length = l2.length
  rotate_left
  · have Hq : Hid (pB (l1 = l2) = false) := Lib.hid (pB_false fun e => hlen (by rw [e]))
    clear R1 R2
    have hne : ¬ ((l1.length : Int) = (l2.length : Int)) := by omega
    generalize l1.length = n1 at *
    generalize l2.length = n2 at *
    go_enter Try.func68, Try.ntmps68
    go_wp2
    go_ret
    exact ⟨ret_bool (by rw [Hq.out]), Below.refl _ _⟩
  obtain ⟨n, hn⟩ : ∃ n : Nat, l1.length = n := ⟨_, rfl⟩
  have Hn1 := Lib.hid hn
  have Hn2 : Hid (l2.length = n) := Lib.hid (by omega)
  have hnb : (n : Int) ≤ 1048576 := by omega
  rw [← hlen, hn]
  clear hn hl1 hlen
  go_enter Try.func68, Try.ntmps68
  go_wp2
  go_loopw [13] (fun i wr => ∃ k : Nat, i = .int .i64 (k : Int) ∧ k ≤ n ∧ Hid (∀ j (a : j < l1.length) (b : j < l2.length), j < k → l1[j] = l2[j]) ∧ Below w.heap.size w wr) (fun i _ => n - (intOf i).toNat)
  case atStart => exact ⟨0, rfl, Nat.zero_le _, Lib.hid (fun j _ _ h => by omega), Below.refl _ _⟩
  case round =>
    obtain ⟨k, rfl, hk, Hall, hb⟩ := hrel
    by_cases hlt : k < n
    · have hlt2 : (k : Int) < (n : Int) := by omega
      have hk1 : k < l1.length := by have := Hn1.out; omega
      have hk2 : k < l2.length := by have := Hn2.out; omega
      obtain ⟨g1, o1, rfl, hg1, hc1⟩ := R1.out (by have := Hn1.out; omega)
      obtain ⟨g2, o2, rfl, hg2, hc2⟩ := R2.out (by have := Hn2.out; omega)
      have at1 := (hc1 k hk1).below hg1 hb
      have at2 := (hc2 k hk2).below hg2 hb
      have Hne : Hid (¬ l1[k] = l2[k] → pB (l1 = l2) = false) := Lib.hid fun h => pB_false fun e => h (by subst e; rfl)
      have Hnx : Hid (l1[k] = l2[k] → ∀ j (a : j < l1.length) (b : j < l2.length), j < k + 1 → l1[j] = l2[j]) := Lib.hid fun h j a b hj => by
        by_cases e : j = k
        · subst e; exact h
        · exact Hall.out j a b (by omega)
      obtain ⟨x, es⟩ : ∃ x, l1[k] = x := ⟨_, rfl⟩
      obtain ⟨y, et⟩ : ∃ y, l2[k] = y := ⟨_, rfl⟩
      rw [es] at at1 Hne Hnx
      rw [et] at at2 Hne Hnx
      clear hc1 hc2 es et hk1 hk2
      have d0 := at_str at1
      have e0 := at_str at2
      clear at1 at2
      by_cases hxy : x = y
      · have Hq := Lib.hid (Hnx.out hxy)
        clear Hne Hnx
        subst hxy
        go_wp2
        go_quiet (fail)
        skip
        go_wp2
        go_roundw
        case rel => exact ⟨k + 1, by go_num, by omega, Hq, below_drewN hb _⟩
        case measure => simp [intOf]; omega
      · have hne := str_ne hxy
        have Hq := Lib.hid (Hne.out hxy)
        clear Hne Hnx hxy
        go_wp2
        go_quiet (fail)
        clear hne
        go_wp2
        go_ret
        exact ⟨ret_bool (by rw [Hq.out]), below_drewN hb _⟩
    · have hlt2 : (n : Int) ≤ (k : Int) := by omega
      obtain rfl : k = n := by omega
      have Hq : Hid (pB (l1 = l2) = true) := Lib.hid (pB_true (List.ext_getElem (by rw [Hn1.out, Hn2.out]) fun j a b => Hall.out j a b (by have := Hn1.out; omega)))
      go_wp2
      go_ret
      exact ⟨ret_bool (by rw [Hq.out]), hb⟩

set_option maxRecDepth 100000 in
set_option maxHeartbeats 1600000 in
/-- spec.l4SameW -/
theorem l4SameW_any (v1 v2 : Value) (l1 l2 : List WriteD) (hl1 : l1.length ≤ 1048576) (_hl2 : l2.length ≤ 1048576) (w : World) (h1 : Rd Cod.write w v1 l1) (h2 : Rd Cod.write w v2 l2) :
    Calls Try.prog 69 #[v1, v2] w fun e w' => e = .returned (.bool (pB (l1 = l2))) ∧ Below w.heap.size w w' := by
  obtain ⟨p1, c1, rfl, _, _, r1⟩ := h1.form
  obtain ⟨p2, c2, rfl, _, _, r2⟩ := h2.form
  have R1 := Lib.hid r1
  have R2 := Lib.hid r2
  clear r1 r2 h1 h2
  by_cases hlen : l1.length = l2.length
  rotate_left
  · have Hq : Hid (pB (l1 = l2) = false) := Lib.hid (pB_false fun e => hlen (by rw [e]))
    clear R1 R2
    have hne : ¬ ((l1.length : Int) = (l2.length : Int)) := by omega
    generalize l1.length = n1 at *
    generalize l2.length = n2 at *
    go_enter Try.func69, Try.ntmps69
    go_wp2
    go_ret
    exact ⟨ret_bool (by rw [Hq.out]), Below.refl _ _⟩
  obtain ⟨n, hn⟩ : ∃ n : Nat, l1.length = n := ⟨_, rfl⟩
  have Hn1 := Lib.hid hn
  have Hn2 : Hid (l2.length = n) := Lib.hid (by omega)
  have hnb : (n : Int) ≤ 1048576 := by omega
  rw [← hlen, hn]
  clear hn hl1 hlen
  go_enter Try.func69, Try.ntmps69
  go_wp2
  go_loopw [13] (fun i wr => ∃ k : Nat, i = .int .i64 (k : Int) ∧ k ≤ n ∧ Hid (∀ j (a : j < l1.length) (b : j < l2.length), j < k → l1[j] = l2[j]) ∧ Below w.heap.size w wr) (fun i _ => n - (intOf i).toNat)
  case atStart => exact ⟨0, rfl, Nat.zero_le _, Lib.hid (fun j _ _ h => by omega), Below.refl _ _⟩
  case round =>
    obtain ⟨k, rfl, hk, Hall, hb⟩ := hrel
    by_cases hlt : k < n
    · have hlt2 : (k : Int) < (n : Int) := by omega
      have hk1 : k < l1.length := by have := Hn1.out; omega
      have hk2 : k < l2.length := by have := Hn2.out; omega
      obtain ⟨g1, o1, rfl, hg1, hc1⟩ := R1.out (by have := Hn1.out; omega)
      obtain ⟨g2, o2, rfl, hg2, hc2⟩ := R2.out (by have := Hn2.out; omega)
      have at1 := (hc1 k hk1).below hg1 hb
      have at2 := (hc2 k hk2).below hg2 hb
      have Hne : Hid (¬ l1[k] = l2[k] → pB (l1 = l2) = false) := Lib.hid fun h => pB_false fun e => h (by subst e; rfl)
      have Hnx : Hid (l1[k] = l2[k] → ∀ j (a : j < l1.length) (b : j < l2.length), j < k + 1 → l1[j] = l2[j]) := Lib.hid fun h j a b hj => by
        by_cases e : j = k
        · subst e; exact h
        · exact Hall.out j a b (by omega)
      obtain ⟨x, es⟩ : ∃ x, l1[k] = x := ⟨_, rfl⟩
      obtain ⟨y, et⟩ : ∃ y, l2[k] = y := ⟨_, rfl⟩
      rw [es] at at1 Hne Hnx
      rw [et] at at2 Hne Hnx
      clear hc1 hc2 es et hk1 hk2
      obtain ⟨d0, d1, d2, _, _⟩ := at_write at1
      obtain ⟨e0, e1, e2, _, _⟩ := at_write at2
      rw [show o1 + k * Cod.write.size = o1 + k * 3 from rfl, show o2 + k * Cod.write.size = o2 + k * 3 from rfl] at *
      clear at1 at2
      have hne := neq_write x y
      have hgd := fun (W : World) (a b : Operand) (xs ys : Array Value) => run_eqGuard_agg (P := Try.prog) W .neq 79 a b xs ys (by kernel_rfl)
      by_cases hxy : x = y
      · rw [pB_true hxy] at hne
        have Hq := Lib.hid (Hnx.out hxy)
        clear Hne Hnx hxy
        go_wp2
        go_quiet (fail)
        clear hne hgd
        go_wp2
        go_roundw
        case rel => exact ⟨k + 1, by go_num, by omega, Hq, below_drewN hb _⟩
        case measure => simp [intOf]; omega
      · rw [pB_false hxy] at hne
        have Hq := Lib.hid (Hne.out hxy)
        clear Hne Hnx hxy
        go_wp2
        go_quiet (fail)
        clear hne hgd
        go_wp2
        go_ret
        exact ⟨ret_bool (by rw [Hq.out]), below_drewN hb _⟩
    · have hlt2 : (n : Int) ≤ (k : Int) := by omega
      obtain rfl : k = n := by omega
      have Hq : Hid (pB (l1 = l2) = true) := Lib.hid (pB_true (List.ext_getElem (by rw [Hn1.out, Hn2.out]) fun j a b => Hall.out j a b (by have := Hn1.out; omega)))
      go_wp2
      go_ret
      exact ⟨ret_bool (by rw [Hq.out]), hb⟩

end Go.Proofs.Ytfaefjdlfjhniaa


/- SameRec, both. -/
namespace Go.Proofs.Ytfaefjdlfjhniaa
open Go.RowKit

theorem recd_eq (x y : RecD) : pB (x = y) = (((((decide (x.Kind = y.Kind) && decide (x.Txn = y.Txn)) && decide (x.Time = y.Time)) && decide (x.Lead = y.Lead)) && decide (x.Yes = y.Yes)) && (pB (x.Reads = y.Reads) && pB (x.Writes = y.Writes))) := by
  refine pB_eq ?_
  obtain ⟨K, T, Ti, L, R, W, Y⟩ := x
  obtain ⟨K', T', Ti', L', R', W', Y'⟩ := y
  simp only [RecD.mk.injEq, Bool.and_eq_true, decide_eq_true_eq, pB_iff]
  constructor
  · rintro ⟨a, b, c, d, e, f, g⟩
    exact ⟨⟨⟨⟨⟨a, b⟩, c⟩, d⟩, g⟩, e, f⟩
  · rintro ⟨⟨⟨⟨⟨a, b⟩, c⟩, d⟩, g⟩, e, f⟩
    exact ⟨a, b, c, d, e, f, g⟩

set_option maxRecDepth 100000 in
set_option maxHeartbeats 3200000 in
/-- impl.SameRec -/
theorem sameRec_any (x y : RecD) (hx1 : x.Reads.length ≤ 1048576) (hx2 : x.Writes.length ≤ 1048576) (hy1 : y.Reads.length ≤ 1048576) (hy2 : y.Writes.length ≤ 1048576) (w : World) (ur uw vr vw : Value)
    (rr : Rd Cod.str w ur x.Reads) (rw_ : Rd Cod.write w uw x.Writes) (sr : Rd Cod.str w vr y.Reads) (sw : Rd Cod.write w vw y.Writes) :
    Calls Try.prog 87 #[.agg #[.int .i64 x.Kind, .int .i64 x.Txn, .int .i64 x.Time, .int .i64 x.Lead, ur, uw, .bool x.Yes], .agg #[.int .i64 y.Kind, .int .i64 y.Txn, .int .i64 y.Time, .int .i64 y.Lead, vr, vw, .bool y.Yes]] w fun e w' => e = .returned (.bool (pB (x = y))) ∧ Below w.heap.size w w' := by
  have Hq := Lib.hid (recd_eq x y)
  have Hr := Lib.hid (fun (W : World) (r1 : Rd Cod.str W ur x.Reads) (r2 : Rd Cod.str W vr y.Reads) => equalString_any ur vr x.Reads y.Reads hx1 hy1 W r1 r2)
  have Hw := Lib.hid (fun (W : World) (r1 : Rd Cod.write W uw x.Writes) (r2 : Rd Cod.write W vw y.Writes) => equalWrite_any uw vw x.Writes y.Writes hx2 hy2 W r1 r2)
  clear hx1 hx2 hy1 hy2
  generalize pB (x = y) = q at *
  obtain ⟨K, T, Ti, L, R, W, Y⟩ := x
  obtain ⟨K', T', Ti', L', R', W', Y'⟩ := y
  simp only at *
  generalize pB (R = R') = qr at *
  generalize pB (W = W') = qw at *
  have Hrr := Lib.hid rr
  have Hrw := Lib.hid rw_
  have Hsr := Lib.hid sr
  have Hsw := Lib.hid sw
  clear rr rw_ sr sw
  by_cases h0 : K = K'
  rotate_left
  · have Hf : Hid (q = false) := Lib.hid (by rw [Hq.out]; simp [h0])
    go_enter Try.func87, Try.ntmps87
    go_wp2
    go_ret
    exact ⟨ret_bool (by rw [Hf.out]), by (repeat (first | (with_reducible exact Below.refl _ _) | (with_reducible refine below_setCell ?_ (by first | (simp; done) | (simp; omega) | omega)) | (with_reducible refine below_alloc _ ?_) | (with_reducible refine below_drewN ?_ _) | (with_reducible assumption) | (with_reducible refine below_after (by assumption) ?_)))⟩
  subst h0
  by_cases h1 : T = T'
  rotate_left
  · have Hf : Hid (q = false) := Lib.hid (by rw [Hq.out]; simp [h1])
    go_enter Try.func87, Try.ntmps87
    go_wp2
    go_ret
    exact ⟨ret_bool (by rw [Hf.out]), by (repeat (first | (with_reducible exact Below.refl _ _) | (with_reducible refine below_setCell ?_ (by first | (simp; done) | (simp; omega) | omega)) | (with_reducible refine below_alloc _ ?_) | (with_reducible refine below_drewN ?_ _) | (with_reducible assumption) | (with_reducible refine below_after (by assumption) ?_)))⟩
  subst h1
  by_cases h2 : Ti = Ti'
  rotate_left
  · have Hf : Hid (q = false) := Lib.hid (by rw [Hq.out]; simp [h2])
    go_enter Try.func87, Try.ntmps87
    go_wp2
    go_ret
    exact ⟨ret_bool (by rw [Hf.out]), by (repeat (first | (with_reducible exact Below.refl _ _) | (with_reducible refine below_setCell ?_ (by first | (simp; done) | (simp; omega) | omega)) | (with_reducible refine below_alloc _ ?_) | (with_reducible refine below_drewN ?_ _) | (with_reducible assumption) | (with_reducible refine below_after (by assumption) ?_)))⟩
  subst h2
  by_cases h3 : L = L'
  rotate_left
  · have Hf : Hid (q = false) := Lib.hid (by rw [Hq.out]; simp [h3])
    go_enter Try.func87, Try.ntmps87
    go_wp2
    go_ret
    exact ⟨ret_bool (by rw [Hf.out]), by (repeat (first | (with_reducible exact Below.refl _ _) | (with_reducible refine below_setCell ?_ (by first | (simp; done) | (simp; omega) | omega)) | (with_reducible refine below_alloc _ ?_) | (with_reducible refine below_drewN ?_ _) | (with_reducible assumption) | (with_reducible refine below_after (by assumption) ?_)))⟩
  subst h3
  by_cases h4 : Y = Y'
  rotate_left
  · have Hf : Hid (q = false) := Lib.hid (by rw [Hq.out]; simp [h4])
    have h5 : Y' = !Y := by revert h4; cases Y <;> cases Y' <;> simp
    subst h5
    cases Y
    all_goals
      go_enter Try.func87, Try.ntmps87
      go_wp2
      go_ret
      exact ⟨ret_bool (by rw [Hf.out]), by (repeat (first | (with_reducible exact Below.refl _ _) | (with_reducible refine below_setCell ?_ (by first | (simp; done) | (simp; omega) | omega)) | (with_reducible refine below_alloc _ ?_) | (with_reducible refine below_drewN ?_ _) | (with_reducible assumption) | (with_reducible refine below_after (by assumption) ?_)))⟩
  subst h4
  have Hf : Hid (q = (qr && qw)) := Lib.hid (by rw [Hq.out]; simp)
  clear Hq
  cases qr
  · go_enter Try.func87, Try.ntmps87
    go_wp2_with fail
    refine (Hr.out _ (Hrr.out.below (by (repeat (first | (with_reducible exact Below.refl _ _) | (with_reducible refine below_setCell ?_ (by first | (simp; done) | (simp; omega) | omega)) | (with_reducible refine below_alloc _ ?_) | (with_reducible refine below_drewN ?_ _) | (with_reducible assumption) | (with_reducible refine below_after (by assumption) ?_))))) (Hsr.out.below (by (repeat (first | (with_reducible exact Below.refl _ _) | (with_reducible refine below_setCell ?_ (by first | (simp; done) | (simp; omega) | omega)) | (with_reducible refine below_alloc _ ?_) | (with_reducible refine below_drewN ?_ _) | (with_reducible assumption) | (with_reducible refine below_after (by assumption) ?_)))))).mono ?_
    rintro e w1 ⟨rfl, k1⟩
    go_wp2
    go_ret
    exact ⟨ret_bool (by rw [Hf.out]; rfl), by (repeat (first | (with_reducible exact Below.refl _ _) | (with_reducible refine below_setCell ?_ (by first | (simp; done) | (simp; omega) | omega)) | (with_reducible refine below_alloc _ ?_) | (with_reducible refine below_drewN ?_ _) | (with_reducible assumption) | (with_reducible refine below_after (by assumption) ?_)))⟩
  · go_enter Try.func87, Try.ntmps87
    go_wp2_with fail
    refine (Hr.out _ (Hrr.out.below (by (repeat (first | (with_reducible exact Below.refl _ _) | (with_reducible refine below_setCell ?_ (by first | (simp; done) | (simp; omega) | omega)) | (with_reducible refine below_alloc _ ?_) | (with_reducible refine below_drewN ?_ _) | (with_reducible assumption) | (with_reducible refine below_after (by assumption) ?_))))) (Hsr.out.below (by (repeat (first | (with_reducible exact Below.refl _ _) | (with_reducible refine below_setCell ?_ (by first | (simp; done) | (simp; omega) | omega)) | (with_reducible refine below_alloc _ ?_) | (with_reducible refine below_drewN ?_ _) | (with_reducible assumption) | (with_reducible refine below_after (by assumption) ?_)))))).mono ?_
    rintro e w1 ⟨rfl, k1⟩
    have b1 : Below w.heap.size w w1 := below_after k1 (by (repeat (first | (with_reducible exact Below.refl _ _) | (with_reducible refine below_setCell ?_ (by first | (simp; done) | (simp; omega) | omega)) | (with_reducible refine below_alloc _ ?_) | (with_reducible refine below_drewN ?_ _) | (with_reducible assumption) | (with_reducible refine below_after (by assumption) ?_))))
    have hx := bcell k1
    have q0 : w.heap.size < w1.heap.size := by have := k1.size; simp at this; omega
    have q1 : w.heap.size + 1 < w1.heap.size := by have := k1.size; simp at this; omega
    go_wp2_with fail
    refine (Hw.out _ (Hrw.out.below b1) (Hsw.out.below b1)).mono ?_
    rintro e w2 ⟨rfl, k2⟩
    go_wp2
    go_ret
    exact ⟨ret_bool (by rw [Hf.out]; rfl), below_after k2 b1⟩

set_option maxRecDepth 100000 in
set_option maxHeartbeats 3200000 in
/-- spec.SameRec -/
theorem sameRecS_any (x y : RecD) (hx1 : x.Reads.length ≤ 1048576) (hx2 : x.Writes.length ≤ 1048576) (hy1 : y.Reads.length ≤ 1048576) (hy2 : y.Writes.length ≤ 1048576) (w : World) (ur uw vr vw : Value)
    (rr : Rd Cod.str w ur x.Reads) (rw_ : Rd Cod.write w uw x.Writes) (sr : Rd Cod.str w vr y.Reads) (sw : Rd Cod.write w vw y.Writes) :
    Calls Try.prog 44 #[.agg #[.int .i64 x.Kind, .int .i64 x.Txn, .int .i64 x.Time, .int .i64 x.Lead, ur, uw, .bool x.Yes], .agg #[.int .i64 y.Kind, .int .i64 y.Txn, .int .i64 y.Time, .int .i64 y.Lead, vr, vw, .bool y.Yes]] w fun e w' => e = .returned (.bool (pB (x = y))) ∧ Below w.heap.size w w' := by
  have Hq := Lib.hid (recd_eq x y)
  have Hr := Lib.hid (fun (W : World) (r1 : Rd Cod.str W ur x.Reads) (r2 : Rd Cod.str W vr y.Reads) => l1SameS_any ur vr x.Reads y.Reads hx1 hy1 W r1 r2)
  have Hw := Lib.hid (fun (W : World) (r1 : Rd Cod.write W uw x.Writes) (r2 : Rd Cod.write W vw y.Writes) => l4SameW_any uw vw x.Writes y.Writes hx2 hy2 W r1 r2)
  clear hx1 hx2 hy1 hy2
  generalize pB (x = y) = q at *
  obtain ⟨K, T, Ti, L, R, W, Y⟩ := x
  obtain ⟨K', T', Ti', L', R', W', Y'⟩ := y
  simp only at *
  generalize pB (R = R') = qr at *
  generalize pB (W = W') = qw at *
  have Hrr := Lib.hid rr
  have Hrw := Lib.hid rw_
  have Hsr := Lib.hid sr
  have Hsw := Lib.hid sw
  clear rr rw_ sr sw
  by_cases h0 : K = K'
  rotate_left
  · have Hf : Hid (q = false) := Lib.hid (by rw [Hq.out]; simp [h0])
    go_enter Try.func44, Try.ntmps44
    go_wp2
    go_ret
    exact ⟨ret_bool (by rw [Hf.out]), by (repeat (first | (with_reducible exact Below.refl _ _) | (with_reducible refine below_setCell ?_ (by first | (simp; done) | (simp; omega) | omega)) | (with_reducible refine below_alloc _ ?_) | (with_reducible refine below_drewN ?_ _) | (with_reducible assumption) | (with_reducible refine below_after (by assumption) ?_)))⟩
  subst h0
  by_cases h1 : T = T'
  rotate_left
  · have Hf : Hid (q = false) := Lib.hid (by rw [Hq.out]; simp [h1])
    go_enter Try.func44, Try.ntmps44
    go_wp2
    go_ret
    exact ⟨ret_bool (by rw [Hf.out]), by (repeat (first | (with_reducible exact Below.refl _ _) | (with_reducible refine below_setCell ?_ (by first | (simp; done) | (simp; omega) | omega)) | (with_reducible refine below_alloc _ ?_) | (with_reducible refine below_drewN ?_ _) | (with_reducible assumption) | (with_reducible refine below_after (by assumption) ?_)))⟩
  subst h1
  by_cases h2 : Ti = Ti'
  rotate_left
  · have Hf : Hid (q = false) := Lib.hid (by rw [Hq.out]; simp [h2])
    go_enter Try.func44, Try.ntmps44
    go_wp2
    go_ret
    exact ⟨ret_bool (by rw [Hf.out]), by (repeat (first | (with_reducible exact Below.refl _ _) | (with_reducible refine below_setCell ?_ (by first | (simp; done) | (simp; omega) | omega)) | (with_reducible refine below_alloc _ ?_) | (with_reducible refine below_drewN ?_ _) | (with_reducible assumption) | (with_reducible refine below_after (by assumption) ?_)))⟩
  subst h2
  by_cases h3 : L = L'
  rotate_left
  · have Hf : Hid (q = false) := Lib.hid (by rw [Hq.out]; simp [h3])
    go_enter Try.func44, Try.ntmps44
    go_wp2
    go_ret
    exact ⟨ret_bool (by rw [Hf.out]), by (repeat (first | (with_reducible exact Below.refl _ _) | (with_reducible refine below_setCell ?_ (by first | (simp; done) | (simp; omega) | omega)) | (with_reducible refine below_alloc _ ?_) | (with_reducible refine below_drewN ?_ _) | (with_reducible assumption) | (with_reducible refine below_after (by assumption) ?_)))⟩
  subst h3
  by_cases h4 : Y = Y'
  rotate_left
  · have Hf : Hid (q = false) := Lib.hid (by rw [Hq.out]; simp [h4])
    have h5 : Y' = !Y := by revert h4; cases Y <;> cases Y' <;> simp
    subst h5
    cases Y
    all_goals
      go_enter Try.func44, Try.ntmps44
      go_wp2
      go_ret
      exact ⟨ret_bool (by rw [Hf.out]), by (repeat (first | (with_reducible exact Below.refl _ _) | (with_reducible refine below_setCell ?_ (by first | (simp; done) | (simp; omega) | omega)) | (with_reducible refine below_alloc _ ?_) | (with_reducible refine below_drewN ?_ _) | (with_reducible assumption) | (with_reducible refine below_after (by assumption) ?_)))⟩
  subst h4
  have Hf : Hid (q = (qr && qw)) := Lib.hid (by rw [Hq.out]; simp)
  clear Hq
  cases qr
  · go_enter Try.func44, Try.ntmps44
    go_wp2_with fail
    refine (Hr.out _ (Hrr.out.below (by (repeat (first | (with_reducible exact Below.refl _ _) | (with_reducible refine below_setCell ?_ (by first | (simp; done) | (simp; omega) | omega)) | (with_reducible refine below_alloc _ ?_) | (with_reducible refine below_drewN ?_ _) | (with_reducible assumption) | (with_reducible refine below_after (by assumption) ?_))))) (Hsr.out.below (by (repeat (first | (with_reducible exact Below.refl _ _) | (with_reducible refine below_setCell ?_ (by first | (simp; done) | (simp; omega) | omega)) | (with_reducible refine below_alloc _ ?_) | (with_reducible refine below_drewN ?_ _) | (with_reducible assumption) | (with_reducible refine below_after (by assumption) ?_)))))).mono ?_
    rintro e w1 ⟨rfl, k1⟩
    go_wp2
    go_ret
    exact ⟨ret_bool (by rw [Hf.out]; rfl), by (repeat (first | (with_reducible exact Below.refl _ _) | (with_reducible refine below_setCell ?_ (by first | (simp; done) | (simp; omega) | omega)) | (with_reducible refine below_alloc _ ?_) | (with_reducible refine below_drewN ?_ _) | (with_reducible assumption) | (with_reducible refine below_after (by assumption) ?_)))⟩
  · go_enter Try.func44, Try.ntmps44
    go_wp2_with fail
    refine (Hr.out _ (Hrr.out.below (by (repeat (first | (with_reducible exact Below.refl _ _) | (with_reducible refine below_setCell ?_ (by first | (simp; done) | (simp; omega) | omega)) | (with_reducible refine below_alloc _ ?_) | (with_reducible refine below_drewN ?_ _) | (with_reducible assumption) | (with_reducible refine below_after (by assumption) ?_))))) (Hsr.out.below (by (repeat (first | (with_reducible exact Below.refl _ _) | (with_reducible refine below_setCell ?_ (by first | (simp; done) | (simp; omega) | omega)) | (with_reducible refine below_alloc _ ?_) | (with_reducible refine below_drewN ?_ _) | (with_reducible assumption) | (with_reducible refine below_after (by assumption) ?_)))))).mono ?_
    rintro e w1 ⟨rfl, k1⟩
    have b1 : Below w.heap.size w w1 := below_after k1 (by (repeat (first | (with_reducible exact Below.refl _ _) | (with_reducible refine below_setCell ?_ (by first | (simp; done) | (simp; omega) | omega)) | (with_reducible refine below_alloc _ ?_) | (with_reducible refine below_drewN ?_ _) | (with_reducible assumption) | (with_reducible refine below_after (by assumption) ?_))))
    have hx := bcell k1
    have q0 : w.heap.size < w1.heap.size := by have := k1.size; simp at this; omega
    have q1 : w.heap.size + 1 < w1.heap.size := by have := k1.size; simp at this; omega
    go_wp2_with fail
    refine (Hw.out _ (Hrw.out.below b1) (Hsw.out.below b1)).mono ?_
    rintro e w2 ⟨rfl, k2⟩
    go_wp2
    go_ret
    exact ⟨ret_bool (by rw [Hf.out]; rfl), below_after k2 b1⟩

end Go.Proofs.Ytfaefjdlfjhniaa


/- Entries and logs compared: impl. -/
namespace Go.Proofs.Ytfaefjdlfjhniaa
open Go.RowKit

theorem entry_eq (x y : EntryD) : pB (x = y) = (decide (x.Term = y.Term) && pB (x.Rec = y.Rec)) := by
  refine pB_eq ?_
  obtain ⟨K, V⟩ := x
  obtain ⟨K', V'⟩ := y
  simp only [EntryD.mk.injEq, Bool.and_eq_true, decide_eq_true_eq, pB_iff]

set_option maxRecDepth 100000 in
/-- impl.sameEntry -/
theorem sameEntry_any (x y : EntryD) (hx1 : x.Rec.Reads.length ≤ 1048576) (hx2 : x.Rec.Writes.length ≤ 1048576) (hy1 : y.Rec.Reads.length ≤ 1048576) (hy2 : y.Rec.Writes.length ≤ 1048576) (w : World) (ur uw vr vw : Value)
    (rr : Rd Cod.str w ur x.Rec.Reads) (rw_ : Rd Cod.write w uw x.Rec.Writes) (sr : Rd Cod.str w vr y.Rec.Reads) (sw : Rd Cod.write w vw y.Rec.Writes) :
    Calls Try.prog 79 #[.agg #[.int .i64 x.Term, .int .i64 x.Rec.Kind, .int .i64 x.Rec.Txn, .int .i64 x.Rec.Time, .int .i64 x.Rec.Lead, ur, uw, .bool x.Rec.Yes], .agg #[.int .i64 y.Term, .int .i64 y.Rec.Kind, .int .i64 y.Rec.Txn, .int .i64 y.Rec.Time, .int .i64 y.Rec.Lead, vr, vw, .bool y.Rec.Yes]] w fun e w' => e = .returned (.bool (pB (x = y))) ∧ Below w.heap.size w w' := by
  have Hc := Lib.hid (fun (W : World) (k : Below w.heap.size w W) => sameRec_any x.Rec y.Rec hx1 hx2 hy1 hy2 W ur uw vr vw (rr.below k) (rw_.below k) (sr.below k) (sw.below k))
  obtain ⟨p1, c1, rfl, -⟩ := rr.form
  obtain ⟨p2, c2, rfl, -⟩ := rw_.form
  obtain ⟨p3, c3, rfl, -⟩ := sr.form
  obtain ⟨p4, c4, rfl, -⟩ := sw.form
  have Hq := Lib.hid (entry_eq x y)
  clear rr rw_ sr sw hx1 hx2 hy1 hy2
  generalize pB (x = y) = q at *
  generalize pB (x.Rec = y.Rec) = q2 at *
  obtain ⟨T, ⟨K, X, I, L, R, W, Y⟩⟩ := x
  obtain ⟨T', ⟨K', X', I', L', R', W', Y'⟩⟩ := y
  dsimp only at *
  by_cases h : T = T'
  · have Hf : Hid (q = q2) := Lib.hid (by rw [Hq.out]; simp [h])
    clear Hq
    subst h
    go_enter Try.func79, Try.ntmps79
    go_wp2_with fail
    refine (Hc.out _ (by (repeat (first | (with_reducible exact Below.refl _ _) | (with_reducible refine below_setCell ?_ (by first | (simp; done) | (simp; omega) | omega)) | (with_reducible refine below_alloc _ ?_) | (with_reducible refine below_drewN ?_ _) | (with_reducible assumption) | (with_reducible refine below_after (by assumption) ?_))))).mono ?_
    rintro e w1 ⟨rfl, k1⟩
    go_wp2
    go_ret
    exact ⟨ret_bool (by rw [Hf.out]), by (repeat (first | (with_reducible exact Below.refl _ _) | (with_reducible refine below_setCell ?_ (by first | (simp; done) | (simp; omega) | omega)) | (with_reducible refine below_alloc _ ?_) | (with_reducible refine below_drewN ?_ _) | (with_reducible assumption) | (with_reducible refine below_after (by assumption) ?_)))⟩
  · have Hf : Hid (q = false) := Lib.hid (by rw [Hq.out]; simp [h])
    clear Hq
    go_enter Try.func79, Try.ntmps79
    go_wp2
    go_ret
    exact ⟨ret_bool (by rw [Hf.out]), by (repeat (first | (with_reducible exact Below.refl _ _) | (with_reducible refine below_setCell ?_ (by first | (simp; done) | (simp; omega) | omega)) | (with_reducible refine below_alloc _ ?_) | (with_reducible refine below_drewN ?_ _) | (with_reducible assumption) | (with_reducible refine below_after (by assumption) ?_)))⟩

set_option maxRecDepth 100000 in
set_option maxHeartbeats 1600000 in
/-- slices.EqualFunc at sameEntry -/
theorem equalFuncEntry_any (v1 v2 : Value) (l1 l2 : List EntryD) (hl1 : costEntryS l1 ≤ 1048576) (hl2 : costEntryS l2 ≤ 1048576) (w : World) (h1 : Rd Cod.entry w v1 l1) (h2 : Rd Cod.entry w v2 l2) :
    Calls Try.prog 78 #[v1, v2, .func (.func 79) #[] #[]] w fun e w' => e = .returned (.bool (pB (l1 = l2))) ∧ Below w.heap.size w w' := by
  obtain ⟨p1, c1, rfl, _, _, r1⟩ := h1.form
  obtain ⟨p2, c2, rfl, _, _, r2⟩ := h2.form
  have R1 := Lib.hid r1
  have R2 := Lib.hid r2
  have Hs1 := Lib.hid hl1
  have Hs2 := Lib.hid hl2
  clear r1 r2 h1 h2
  by_cases hlen : l1.length = l2.length
  rotate_left
  · have Hq : Hid (pB (l1 = l2) = false) := Lib.hid (pB_false fun e => hlen (by rw [e]))
    clear R1 R2
    have hne : ¬ ((l1.length : Int) = (l2.length : Int)) := by omega
    clear hl1 hl2 Hs1 Hs2
    generalize l1.length = n1 at *
    generalize l2.length = n2 at *
    go_enter Try.func78, Try.ntmps78
    go_wp2
    go_ret
    exact ⟨ret_bool (by rw [Hq.out]), Below.refl _ _⟩
  obtain ⟨n, hn⟩ : ∃ n : Nat, l1.length = n := ⟨_, rfl⟩
  have Hn1 := Lib.hid hn
  have Hn2 : Hid (l2.length = n) := Lib.hid (by omega)
  have hnb : (n : Int) ≤ 1048576 := by unfold costEntryS at hl1; omega
  rw [← hlen, hn]
  clear hn hl1 hl2 hlen
  go_enter Try.func78, Try.ntmps78
  go_wp2
  go_loopw [17] (fun i wr => ∃ k : Nat, i = .int .i64 (k : Int) ∧ k ≤ n ∧ Hid (∀ j (a : j < l1.length) (b : j < l2.length), j < k → l1[j] = l2[j]) ∧ Below w.heap.size w wr) (fun i _ => n - (intOf i).toNat)
  case atStart => exact ⟨0, rfl, Nat.zero_le _, Lib.hid (fun j _ _ h => by omega), Below.refl _ _⟩
  case round =>
    obtain ⟨k, rfl, hk, Hall, hb⟩ := hrel
    by_cases hlt : k < n
    · have hlt2 : (k : Int) < (n : Int) := by omega
      have hk1 : k < l1.length := by have := Hn1.out; omega
      have hk2 : k < l2.length := by have := Hn2.out; omega
      obtain ⟨g1, o1, rfl, hg1, hc1⟩ := R1.out (by have := Hn1.out; omega)
      obtain ⟨g2, o2, rfl, hg2, hc2⟩ := R2.out (by have := Hn2.out; omega)
      have at1 := (hc1 k hk1).below hg1 hb
      have at2 := (hc2 k hk2).below hg2 hb
      have hg1' : g1 < wr.heap.size := by have := hb.size; omega
      have hg2' : g2 < wr.heap.size := by have := hb.size; omega
      have hv1 := ent_le Hs1.out hk1
      have hv2 := ent_le Hs2.out hk2
      have Hne : Hid (pB (l1[k] = l2[k]) = false → pB (l1 = l2) = false) := Lib.hid fun h => pB_false fun e => by
        have : pB (l1[k] = l2[k]) = true := pB_true (by subst e; rfl)
        rw [h] at this
        cases this
      have Hnx : Hid (pB (l1[k] = l2[k]) = true → ∀ j (a : j < l1.length) (b : j < l2.length), j < k + 1 → l1[j] = l2[j]) := Lib.hid fun h j a b hj => by
        by_cases e : j = k
        · subst e; exact pB_iff.1 h
        · exact Hall.out j a b (by omega)
      obtain ⟨x, es⟩ : ∃ x, l1[k] = x := ⟨_, rfl⟩
      obtain ⟨y, et⟩ : ∃ y, l2[k] = y := ⟨_, rfl⟩
      rw [es] at at1 Hne Hnx hv1
      rw [et] at at2 Hne Hnx hv2
      clear hc1 hc2 es et hk1 hk2
      obtain ⟨d0, d1, d2, d3, d4, ⟨u5, d5, ru5⟩, ⟨u6, d6, ru6⟩, d7, _⟩ := at_entry at1
      obtain ⟨e0, e1, e2, e3, e4, ⟨v5, e5, rv5⟩, ⟨v6, e6, rv6⟩, e7, _⟩ := at_entry at2
      rw [show o1 + k * Cod.entry.size = o1 + k * 8 from rfl, show o2 + k * Cod.entry.size = o2 + k * 8 from rfl] at *
      obtain ⟨pu5, cu5, rfl, _⟩ := ru5.form
      obtain ⟨pu6, cu6, rfl, _⟩ := ru6.form
      obtain ⟨pv5, cv5, rfl, _⟩ := rv5.form
      obtain ⟨pv6, cv6, rfl, _⟩ := rv6.form
      clear at1 at2
      have Hc := Lib.hid (fun (W : World) r1 r2 r3 r4 => sameEntry_any x y hv1.1 hv1.2 hv2.1 hv2.2 W (.slice pu5 x.Rec.Reads.length cu5) (.slice pu6 x.Rec.Writes.length cu6) (.slice pv5 y.Rec.Reads.length cv5) (.slice pv6 y.Rec.Writes.length cv6) r1 r2 r3 r4)
      clear hv1 hv2
      generalize pB (x = y) = q at *
      cases q
      · have Hq := Lib.hid (Hne.out (by first | rfl | trivial))
        clear Hne Hnx
        go_wp2_with fail
        refine (Hc.out _ (ru5.below (by (repeat (first | (with_reducible exact Below.refl _ _) | (with_reducible refine below_setCell ?_ (by first | (simp; done) | (simp; omega) | omega)) | (with_reducible refine below_alloc _ ?_) | (with_reducible refine below_drewN ?_ _) | (with_reducible assumption) | (with_reducible refine below_after (by assumption) ?_))))) (ru6.below (by (repeat (first | (with_reducible exact Below.refl _ _) | (with_reducible refine below_setCell ?_ (by first | (simp; done) | (simp; omega) | omega)) | (with_reducible refine below_alloc _ ?_) | (with_reducible refine below_drewN ?_ _) | (with_reducible assumption) | (with_reducible refine below_after (by assumption) ?_))))) (rv5.below (by (repeat (first | (with_reducible exact Below.refl _ _) | (with_reducible refine below_setCell ?_ (by first | (simp; done) | (simp; omega) | omega)) | (with_reducible refine below_alloc _ ?_) | (with_reducible refine below_drewN ?_ _) | (with_reducible assumption) | (with_reducible refine below_after (by assumption) ?_))))) (rv6.below (by (repeat (first | (with_reducible exact Below.refl _ _) | (with_reducible refine below_setCell ?_ (by first | (simp; done) | (simp; omega) | omega)) | (with_reducible refine below_alloc _ ?_) | (with_reducible refine below_drewN ?_ _) | (with_reducible assumption) | (with_reducible refine below_after (by assumption) ?_)))))).mono ?_
        rintro e w1 ⟨rfl, kk⟩
        have b1 : Below w.heap.size w w1 := below_after kk (by (repeat (first | (with_reducible exact Below.refl _ _) | (with_reducible refine below_setCell ?_ (by first | (simp; done) | (simp; omega) | omega)) | (with_reducible refine below_alloc _ ?_) | (with_reducible refine below_drewN ?_ _) | (with_reducible assumption) | (with_reducible refine below_after (by assumption) ?_))))
        go_wp2
        go_ret
        exact ⟨ret_bool (by rw [Hq.out]), b1⟩
      · have Hq := Lib.hid (Hnx.out (by first | rfl | trivial))
        clear Hne Hnx
        go_wp2_with fail
        refine (Hc.out _ (ru5.below (by (repeat (first | (with_reducible exact Below.refl _ _) | (with_reducible refine below_setCell ?_ (by first | (simp; done) | (simp; omega) | omega)) | (with_reducible refine below_alloc _ ?_) | (with_reducible refine below_drewN ?_ _) | (with_reducible assumption) | (with_reducible refine below_after (by assumption) ?_))))) (ru6.below (by (repeat (first | (with_reducible exact Below.refl _ _) | (with_reducible refine below_setCell ?_ (by first | (simp; done) | (simp; omega) | omega)) | (with_reducible refine below_alloc _ ?_) | (with_reducible refine below_drewN ?_ _) | (with_reducible assumption) | (with_reducible refine below_after (by assumption) ?_))))) (rv5.below (by (repeat (first | (with_reducible exact Below.refl _ _) | (with_reducible refine below_setCell ?_ (by first | (simp; done) | (simp; omega) | omega)) | (with_reducible refine below_alloc _ ?_) | (with_reducible refine below_drewN ?_ _) | (with_reducible assumption) | (with_reducible refine below_after (by assumption) ?_))))) (rv6.below (by (repeat (first | (with_reducible exact Below.refl _ _) | (with_reducible refine below_setCell ?_ (by first | (simp; done) | (simp; omega) | omega)) | (with_reducible refine below_alloc _ ?_) | (with_reducible refine below_drewN ?_ _) | (with_reducible assumption) | (with_reducible refine below_after (by assumption) ?_)))))).mono ?_
        rintro e w1 ⟨rfl, kk⟩
        have b1 : Below w.heap.size w w1 := below_after kk (by (repeat (first | (with_reducible exact Below.refl _ _) | (with_reducible refine below_setCell ?_ (by first | (simp; done) | (simp; omega) | omega)) | (with_reducible refine below_alloc _ ?_) | (with_reducible refine below_drewN ?_ _) | (with_reducible assumption) | (with_reducible refine below_after (by assumption) ?_))))
        go_wp2
        go_roundw
        case rel => exact ⟨k + 1, by go_num, by omega, Hq, b1⟩
        case measure => simp [intOf]; omega
    · have hlt2 : (n : Int) ≤ (k : Int) := by omega
      obtain rfl : k = n := by omega
      have Hq : Hid (pB (l1 = l2) = true) := Lib.hid (pB_true (List.ext_getElem (by rw [Hn1.out, Hn2.out]) fun j a b => Hall.out j a b (by have := Hn1.out; omega)))
      go_wp2
      go_ret
      exact ⟨ret_bool (by rw [Hq.out]), hb⟩

/-- impl.sameEntries -/
theorem sameEntries_any (v1 v2 : Value) (l1 l2 : List EntryD) (hl1 : costEntryS l1 ≤ 1048576) (hl2 : costEntryS l2 ≤ 1048576) (w : World) (h1 : Rd Cod.entry w v1 l1) (h2 : Rd Cod.entry w v2 l2) :
    Calls Try.prog 60 #[v1, v2] w fun e w' => e = .returned (.bool (pB (l1 = l2))) ∧ Below w.heap.size w w' := by
  have Hc := Lib.hid (equalFuncEntry_any v1 v2 l1 l2 hl1 hl2 w h1 h2)
  go_enter Try.func60, Try.ntmps60
  go_wp2_with fail
  refine Hc.out.mono ?_
  rintro e w1 ⟨rfl, k1⟩
  go_wp2
  go_ret
  exact ⟨rfl, k1⟩

theorem costEntry_take (l : List EntryD) (k : Nat) : costEntryS (l.take k) ≤ costEntryS l := by
  have := sumC_le costEntry l k
  unfold costEntryS
  rw [List.length_take]
  omega

set_option maxRecDepth 100000 in
/-- impl.hasPrefix -/
theorem hasPrefix_any (v1 v2 : Value) (l1 l2 : List EntryD) (hl1 : costEntryS l1 ≤ 1048576) (hl2 : costEntryS l2 ≤ 1048576) (w : World) (h1 : Rd Cod.entry w v1 l1) (h2 : Rd Cod.entry w v2 l2) :
    Calls Try.prog 39 #[v1, v2] w fun e w' => e = .returned (.bool (pB (l2 <+: l1))) ∧ Below w.heap.size w w' := by
  obtain ⟨p1, c1, rfl, hc1, -, -⟩ := h1.form
  obtain ⟨p2, c2, rfl, -, -, -⟩ := h2.form
  by_cases hlen : l2.length ≤ l1.length
  · have Hc := Lib.hid (sameEntries_any (.slice p1 l2.length c1) (.slice p2 l2.length c2) (l1.take l2.length) l2 (Nat.le_trans (costEntry_take _ _) hl1) hl2 w (h1.take _ hlen) h2)
    have Hq : Hid (pB (l1.take l2.length = l2) = pB (l2 <+: l1)) := Lib.hid (pB_eq (by rw [pB_iff, List.prefix_iff_eq_take]; exact eq_comm))
    have hn : (l2.length : Int) ≤ (l1.length : Int) := by omega
    have hn2 : (l1.length : Int) ≤ (c1 : Int) := by omega
    have hn3 : (l1.length : Int) ≤ 1048576 := by unfold costEntryS at hl1; omega
    have hn4 : (l2.length : Int) ≤ (c1 : Int) := by omega
    clear h1 h2 hl1 hl2 hlen
    generalize pB (l1.take l2.length = l2) = q at *
    generalize l1.length = n1 at *
    generalize l2.length = n2 at *
    go_enter Try.func39, Try.ntmps39
    go_wp2_with fail
    refine Hc.out.mono ?_
    rintro e w1 ⟨rfl, k1⟩
    go_wp2
    go_ret
    exact ⟨ret_bool (by rw [Hq.out]), k1⟩
  · have Hq : Hid (pB (l2 <+: l1) = false) := Lib.hid (pB_false fun e => hlen e.length_le)
    have hn : ¬ ((l2.length : Int) ≤ (l1.length : Int)) := by omega
    clear h1 h2 hl1 hl2 hlen
    generalize l1.length = n1 at *
    generalize l2.length = n2 at *
    go_enter Try.func39, Try.ntmps39
    go_wp2
    go_ret
    exact ⟨ret_bool (by rw [Hq.out]), Below.refl _ _⟩

end Go.Proofs.Ytfaefjdlfjhniaa


/- Entries and logs compared: spec. -/
namespace Go.Proofs.Ytfaefjdlfjhniaa
open Go.RowKit

set_option maxRecDepth 100000 in
set_option maxHeartbeats 6400000 in
/-- spec.l9SameRec -/
theorem l9SameRec_any (x y : RecD) (hx1 : x.Reads.length ≤ 1048576) (hx2 : x.Writes.length ≤ 1048576) (_hy1 : y.Reads.length ≤ 1048576) (_hy2 : y.Writes.length ≤ 1048576) (w : World) (ur uw vr vw : Value)
    (rr : Rd Cod.str w ur x.Reads) (rw_ : Rd Cod.write w uw x.Writes) (sr : Rd Cod.str w vr y.Reads) (sw : Rd Cod.write w vw y.Writes) :
    Calls Try.prog 97 #[.agg #[.int .i64 x.Kind, .int .i64 x.Txn, .int .i64 x.Time, .int .i64 x.Lead, ur, uw, .bool x.Yes], .agg #[.int .i64 y.Kind, .int .i64 y.Txn, .int .i64 y.Time, .int .i64 y.Lead, vr, vw, .bool y.Yes]] w fun e w' => e = .returned (.bool (pB (x = y))) ∧ Below w.heap.size w w' := by
  have Hq := Lib.hid (recd_eq x y)
  obtain ⟨p1, c1, rfl, _, _, r1⟩ := rr.form
  obtain ⟨p2, c2, rfl, _, _, r2⟩ := sr.form
  obtain ⟨p3, c3, rfl, _, _, r3⟩ := rw_.form
  obtain ⟨p4, c4, rfl, _, _, r4⟩ := sw.form
  have R1 := Lib.hid r1
  have R2 := Lib.hid r2
  have R3 := Lib.hid r3
  have R4 := Lib.hid r4
  clear r1 r2 r3 r4 rr rw_ sr sw
  generalize pB (x = y) = q at *
  obtain ⟨K, T, Ti, L, R, W, Y⟩ := x
  obtain ⟨K', T', Ti', L', R', W', Y'⟩ := y
  dsimp only at *
  by_cases h0 : K = K'
  rotate_left
  · have Hf : Hid (q = false) := Lib.hid (by rw [Hq.out]; simp [h0])
    clear R1 R2 R3 R4
    generalize R.length = n1 at *
    generalize R'.length = n2 at *
    generalize W.length = n3 at *
    generalize W'.length = n4 at *
    go_enter Try.func97, Try.ntmps97
    go_wp2
    go_ret
    exact ⟨ret_bool (by rw [Hf.out]), by (repeat (first | (with_reducible exact Below.refl _ _) | (with_reducible refine below_setCell ?_ (by first | (simp; done) | (simp; omega) | omega)) | (with_reducible refine below_alloc _ ?_) | (with_reducible refine below_drewN ?_ _) | (with_reducible assumption) | (with_reducible refine below_after (by assumption) ?_)))⟩
  subst h0
  by_cases h1 : T = T'
  rotate_left
  · have Hf : Hid (q = false) := Lib.hid (by rw [Hq.out]; simp [h1])
    clear R1 R2 R3 R4
    generalize R.length = n1 at *
    generalize R'.length = n2 at *
    generalize W.length = n3 at *
    generalize W'.length = n4 at *
    go_enter Try.func97, Try.ntmps97
    go_wp2
    go_ret
    exact ⟨ret_bool (by rw [Hf.out]), by (repeat (first | (with_reducible exact Below.refl _ _) | (with_reducible refine below_setCell ?_ (by first | (simp; done) | (simp; omega) | omega)) | (with_reducible refine below_alloc _ ?_) | (with_reducible refine below_drewN ?_ _) | (with_reducible assumption) | (with_reducible refine below_after (by assumption) ?_)))⟩
  subst h1
  by_cases h2 : Ti = Ti'
  rotate_left
  · have Hf : Hid (q = false) := Lib.hid (by rw [Hq.out]; simp [h2])
    clear R1 R2 R3 R4
    generalize R.length = n1 at *
    generalize R'.length = n2 at *
    generalize W.length = n3 at *
    generalize W'.length = n4 at *
    go_enter Try.func97, Try.ntmps97
    go_wp2
    go_ret
    exact ⟨ret_bool (by rw [Hf.out]), by (repeat (first | (with_reducible exact Below.refl _ _) | (with_reducible refine below_setCell ?_ (by first | (simp; done) | (simp; omega) | omega)) | (with_reducible refine below_alloc _ ?_) | (with_reducible refine below_drewN ?_ _) | (with_reducible assumption) | (with_reducible refine below_after (by assumption) ?_)))⟩
  subst h2
  by_cases h3 : L = L'
  rotate_left
  · have Hf : Hid (q = false) := Lib.hid (by rw [Hq.out]; simp [h3])
    clear R1 R2 R3 R4
    generalize R.length = n1 at *
    generalize R'.length = n2 at *
    generalize W.length = n3 at *
    generalize W'.length = n4 at *
    go_enter Try.func97, Try.ntmps97
    go_wp2
    go_ret
    exact ⟨ret_bool (by rw [Hf.out]), by (repeat (first | (with_reducible exact Below.refl _ _) | (with_reducible refine below_setCell ?_ (by first | (simp; done) | (simp; omega) | omega)) | (with_reducible refine below_alloc _ ?_) | (with_reducible refine below_drewN ?_ _) | (with_reducible assumption) | (with_reducible refine below_after (by assumption) ?_)))⟩
  subst h3
  by_cases h4 : Y = Y'
  rotate_left
  · have Hf : Hid (q = false) := Lib.hid (by rw [Hq.out]; simp [h4])
    have h5 : Y' = !Y := by revert h4; cases Y <;> cases Y' <;> simp
    subst h5
    clear R1 R2 R3 R4
    generalize R.length = n1 at *
    generalize R'.length = n2 at *
    generalize W.length = n3 at *
    generalize W'.length = n4 at *
    cases Y
    all_goals
      go_enter Try.func97, Try.ntmps97
      go_wp2
      go_ret
      exact ⟨ret_bool (by rw [Hf.out]), by (repeat (first | (with_reducible exact Below.refl _ _) | (with_reducible refine below_setCell ?_ (by first | (simp; done) | (simp; omega) | omega)) | (with_reducible refine below_alloc _ ?_) | (with_reducible refine below_drewN ?_ _) | (with_reducible assumption) | (with_reducible refine below_after (by assumption) ?_)))⟩
  subst h4
  have Hf0 : Hid (q = (pB (R = R') && pB (W = W'))) := Lib.hid (by rw [Hq.out]; simp)
  clear Hq
  have Ht : Hid (R = R' → W = W' → q = true) := Lib.hid fun a b => by rw [Hf0.out, pB_true a, pB_true b]; rfl
  have Hr : Hid (R ≠ R' → q = false) := Lib.hid fun a => by rw [Hf0.out, pB_false a]; rfl
  have Hw : Hid (W ≠ W' → q = false) := Lib.hid fun a => by rw [Hf0.out, pB_false a, Bool.and_false]
  clear Hf0
  obtain ⟨n1, hn1⟩ : ∃ n : Nat, R.length = n := ⟨_, rfl⟩
  obtain ⟨n2, hn2⟩ : ∃ n : Nat, R'.length = n := ⟨_, rfl⟩
  obtain ⟨n3, hn3⟩ : ∃ n : Nat, W.length = n := ⟨_, rfl⟩
  obtain ⟨n4, hn4⟩ : ∃ n : Nat, W'.length = n := ⟨_, rfl⟩
  rw [hn1] at hx1 ⊢
  rw [hn2]
  rw [hn3] at hx2 ⊢
  rw [hn4]
  have hb1 : (n1 : Int) ≤ 1048576 := by omega
  have hb3 : (n3 : Int) ≤ 1048576 := by omega
  have Hn1 := Lib.hid hn1
  have Hn2 := Lib.hid hn2
  have Hn3 := Lib.hid hn3
  have Hn4 := Lib.hid hn4
  clear hn1 hn2 hn3 hn4
  by_cases h5 : n1 = n2
  rotate_left
  · have Hf : Hid (q = false) := Lib.hid (Hr.out fun e => h5 (by rw [← Hn1.out, ← Hn2.out, e]))
    have hne : ¬ ((n1 : Int) = (n2 : Int)) := by omega
    clear Ht Hr Hw R1 R2 R3 R4
    go_enter Try.func97, Try.ntmps97
    go_wp2
    go_ret
    exact ⟨ret_bool (by rw [Hf.out]), by (repeat (first | (with_reducible exact Below.refl _ _) | (with_reducible refine below_setCell ?_ (by first | (simp; done) | (simp; omega) | omega)) | (with_reducible refine below_alloc _ ?_) | (with_reducible refine below_drewN ?_ _) | (with_reducible assumption) | (with_reducible refine below_after (by assumption) ?_)))⟩
  subst h5
  by_cases h6 : n3 = n4
  rotate_left
  · have Hf : Hid (q = false) := Lib.hid (Hw.out fun e => h6 (by rw [← Hn3.out, ← Hn4.out, e]))
    have hne : ¬ ((n3 : Int) = (n4 : Int)) := by omega
    clear Ht Hr Hw R1 R2 R3 R4
    go_enter Try.func97, Try.ntmps97
    go_wp2
    go_ret
    exact ⟨ret_bool (by rw [Hf.out]), by (repeat (first | (with_reducible exact Below.refl _ _) | (with_reducible refine below_setCell ?_ (by first | (simp; done) | (simp; omega) | omega)) | (with_reducible refine below_alloc _ ?_) | (with_reducible refine below_drewN ?_ _) | (with_reducible assumption) | (with_reducible refine below_after (by assumption) ?_)))⟩
  subst h6
  go_enter Try.func97, Try.ntmps97
  go_wp2
  go_loopw [5] (fun i wr => ∃ k : Nat, i = .int .i64 (k : Int) ∧ k ≤ n1 ∧ Hid (∀ j (a : j < R.length) (b : j < R'.length), j < k → R[j] = R'[j]) ∧ (wr.cell? ⟨w.heap.size, 4, none⟩ = some (.slice p1 n1 c1) ∧ wr.cell? ⟨w.heap.size + 1, 4, none⟩ = some (.slice p2 n1 c2) ∧ wr.cell? ⟨w.heap.size, 5, none⟩ = some (.slice p3 n3 c3) ∧ wr.cell? ⟨w.heap.size + 1, 5, none⟩ = some (.slice p4 n3 c4)) ∧ w.heap.size + 1 < wr.heap.size ∧ Below w.heap.size w wr) (fun i _ => n1 - (intOf i).toNat)
  case atStart => exact ⟨0, rfl, Nat.zero_le _, Lib.hid (fun j _ _ h => by omega), ⟨by simp [go_sem], by simp [go_sem], by simp [go_sem], by simp [go_sem]⟩, by simp, by (repeat (first | (with_reducible exact Below.refl _ _) | (with_reducible refine below_setCell ?_ (by first | (simp; done) | (simp; omega) | omega)) | (with_reducible refine below_alloc _ ?_) | (with_reducible refine below_drewN ?_ _) | (with_reducible assumption) | (with_reducible refine below_after (by assumption) ?_)))⟩
  case round =>
    obtain ⟨k, rfl, hk, Hall, ⟨b1, b2, b3, b4⟩, hz, hb⟩ := hrel
    by_cases hlt : k < n1
    · have hlt2 : (k : Int) < (n1 : Int) := by omega
      have hk1 : k < R.length := by have := Hn1.out; omega
      have hk2 : k < R'.length := by have := Hn2.out; omega
      obtain ⟨g1, o1, rfl, hg1, hc1⟩ := R1.out (by have := Hn1.out; omega)
      obtain ⟨g2, o2, rfl, hg2, hc2⟩ := R2.out (by have := Hn2.out; omega)
      have at1 := (hc1 k hk1).below hg1 hb
      have at2 := (hc2 k hk2).below hg2 hb
      have Hne : Hid (¬ R[k] = R'[k] → q = false) := Lib.hid fun h => Hr.out fun e => h (by subst e; rfl)
      have Hnx : Hid (R[k] = R'[k] → ∀ j (a : j < R.length) (b : j < R'.length), j < k + 1 → R[j] = R'[j]) := Lib.hid fun h j a b hj => by
        by_cases e : j = k
        · subst e; exact h
        · exact Hall.out j a b (by omega)
      obtain ⟨x, es⟩ : ∃ x, R[k] = x := ⟨_, rfl⟩
      obtain ⟨y, et⟩ : ∃ y, R'[k] = y := ⟨_, rfl⟩
      rw [es] at at1 Hne Hnx
      rw [et] at at2 Hne Hnx
      clear hc1 hc2 es et hk1 hk2
      have d0 := at_str at1
      have e0 := at_str at2
      clear at1 at2
      by_cases hxy : x = y
      · have Hq := Lib.hid (Hnx.out hxy)
        clear Hne Hnx
        subst hxy
        go_wp2
        go_quiet (fail)
        skip
        go_wp2
        go_roundw
        case rel => exact ⟨k + 1, by go_num, by omega, Hq, ⟨b1, b2, b3, b4⟩, hz, below_drewN hb _⟩
        case measure => simp [intOf]; omega
      · have hne := str_ne hxy
        have Hq := Lib.hid (Hne.out hxy)
        clear Hne Hnx hxy
        go_wp2
        go_quiet (fail)
        clear hne
        go_wp2
        go_ret
        exact ⟨ret_bool (by rw [Hq.out]), below_drewN hb _⟩
    · have hlt2 : (n1 : Int) ≤ (k : Int) := by omega
      obtain rfl : k = n1 := by omega
      have He : Hid (R = R') := Lib.hid (List.ext_getElem (by rw [Hn1.out, Hn2.out]) fun j a b => Hall.out j a b (by have := Hn1.out; omega))
      clear Hall
      obtain ⟨w0, h0⟩ : ∃ w0, wr = w0 := ⟨_, rfl⟩
      rw [h0] at b1 b2 b3 b4 hz hb ⊢
      clear h0
      go_wp2
      go_loopw [6] (fun i wr => ∃ k : Nat, i = .int .i64 (k : Int) ∧ k ≤ n3 ∧ Hid (∀ j (a : j < W.length) (b : j < W'.length), j < k → W[j] = W'[j]) ∧ (wr.cell? ⟨w.heap.size, 5, none⟩ = some (.slice p3 n3 c3) ∧ wr.cell? ⟨w.heap.size + 1, 5, none⟩ = some (.slice p4 n3 c4)) ∧ w.heap.size + 1 < wr.heap.size ∧ Below w.heap.size w wr) (fun i _ => n3 - (intOf i).toNat)
      case atStart => exact ⟨0, rfl, Nat.zero_le _, Lib.hid (fun j _ _ h => by omega), ⟨b3, b4⟩, hz, hb⟩
      case round =>
        clear b1 b2 b3 b4 hz hb hk hlt hlt2
        obtain ⟨k, rfl, hk, Hall, ⟨b3, b4⟩, hz, hb⟩ := hrel
        by_cases hlt : k < n3
        · have hlt2 : (k : Int) < (n3 : Int) := by omega
          have hk1 : k < W.length := by have := Hn3.out; omega
          have hk2 : k < W'.length := by have := Hn4.out; omega
          obtain ⟨g1, o1, rfl, hg1, hc1⟩ := R3.out (by have := Hn3.out; omega)
          obtain ⟨g2, o2, rfl, hg2, hc2⟩ := R4.out (by have := Hn4.out; omega)
          have at1 := (hc1 k hk1).below hg1 hb
          have at2 := (hc2 k hk2).below hg2 hb
          have Hne : Hid (¬ W[k] = W'[k] → q = false) := Lib.hid fun h => Hw.out fun e => h (by subst e; rfl)
          have Hnx : Hid (W[k] = W'[k] → ∀ j (a : j < W.length) (b : j < W'.length), j < k + 1 → W[j] = W'[j]) := Lib.hid fun h j a b hj => by
            by_cases e : j = k
            · subst e; exact h
            · exact Hall.out j a b (by omega)
          obtain ⟨x, es⟩ : ∃ x, W[k] = x := ⟨_, rfl⟩
          obtain ⟨y, et⟩ : ∃ y, W'[k] = y := ⟨_, rfl⟩
          rw [es] at at1 Hne Hnx
          rw [et] at at2 Hne Hnx
          clear hc1 hc2 es et hk1 hk2
          obtain ⟨d0, d1, d2, _, _⟩ := at_write at1
          obtain ⟨e0, e1, e2, _, _⟩ := at_write at2
          rw [show o1 + k * Cod.write.size = o1 + k * 3 from rfl, show o2 + k * Cod.write.size = o2 + k * 3 from rfl] at *
          clear at1 at2
          have hne := neq_write x y
          have hgd := fun (W : World) (a b : Operand) (xs ys : Array Value) => run_eqGuard_agg (P := Try.prog) W .neq 79 a b xs ys (by kernel_rfl)
          by_cases hxy : x = y
          · rw [pB_true hxy] at hne
            have Hq := Lib.hid (Hnx.out hxy)
            clear Hne Hnx hxy
            go_wp2
            go_quiet (fail)
            clear hne hgd
            go_wp2
            go_roundw
            case rel => exact ⟨k + 1, by go_num, by omega, Hq, ⟨b3, b4⟩, hz, below_drewN hb _⟩
            case measure => simp [intOf]; omega
          · rw [pB_false hxy] at hne
            have Hq := Lib.hid (Hne.out hxy)
            clear Hne Hnx hxy
            go_wp2
            go_quiet (fail)
            clear hne hgd
            go_wp2
            go_ret
            exact ⟨ret_bool (by rw [Hq.out]), below_drewN hb _⟩
        · have hlt2 : (n3 : Int) ≤ (k : Int) := by omega
          obtain rfl : k = n3 := by omega
          have Hq : Hid (q = true) := Lib.hid (Ht.out He.out (List.ext_getElem (by rw [Hn3.out, Hn4.out]) fun j a b => Hall.out j a b (by have := Hn3.out; omega)))
          go_wp2
          go_ret
          exact ⟨ret_bool (by rw [Hq.out]), hb⟩

/-- Whether the first n entries are there and the same. -/
noncomputable def begB (l m : List EntryD) (n : Nat) : Bool := pB (n ≤ l.length ∧ n ≤ m.length ∧ l.take n = m.take n)

set_option maxRecDepth 100000 in
set_option maxHeartbeats 3200000 in
/-- spec.l9Begins -/
theorem l9Begins_any (v1 v2 : Value) (l1 l2 : List EntryD) (m : Nat) (hl1 : costEntryS l1 ≤ 1048576) (hl2 : costEntryS l2 ≤ 1048576) (w : World) (h1 : Rd Cod.entry w v1 l1) (h2 : Rd Cod.entry w v2 l2) :
    Calls Try.prog 89 #[v1, v2, .int .i64 (m : Int)] w fun e w' => e = .returned (.bool (begB l1 l2 m)) ∧ Below w.heap.size w w' := by
  obtain ⟨p1, c1, rfl, _, _, r1⟩ := h1.form
  obtain ⟨p2, c2, rfl, _, _, r2⟩ := h2.form
  have R1 := Lib.hid r1
  have R2 := Lib.hid r2
  have Hs1 := Lib.hid hl1
  have Hs2 := Lib.hid hl2
  clear r1 r2 h1 h2
  have Hb : Hid (begB l1 l2 m = pB (m ≤ l1.length ∧ m ≤ l2.length ∧ l1.take m = l2.take m)) := Lib.hid rfl
  generalize begB l1 l2 m = q at *
  have hlb : (l1.length : Int) ≤ 1048576 := by unfold costEntryS at hl1; omega
  obtain ⟨n1, hn1⟩ : ∃ n : Nat, l1.length = n := ⟨_, rfl⟩
  obtain ⟨n2, hn2⟩ : ∃ n : Nat, l2.length = n := ⟨_, rfl⟩
  rw [hn1] at hlb
  rw [hn1, hn2]
  have Hn1 := Lib.hid hn1
  have Hn2 := Lib.hid hn2
  clear hn1 hn2 hl1 hl2
  by_cases ha : m ≤ n1
  rotate_left
  · have Hq : Hid (q = false) := Lib.hid (by rw [Hb.out]; exact pB_false fun h => ha (by have := h.1; rw [Hn1.out] at this; exact this))
    have hne : (n1 : Int) < (m : Int) := by omega
    clear R1 R2 Hb
    go_enter Try.func89, Try.ntmps89
    go_wp2
    go_ret
    exact ⟨ret_bool (by rw [Hq.out]), Below.refl _ _⟩
  by_cases hc : m ≤ n2
  rotate_left
  · have Hq : Hid (q = false) := Lib.hid (by rw [Hb.out]; exact pB_false fun h => hc (by have := h.2.1; rw [Hn2.out] at this; exact this))
    have hne : (n2 : Int) < (m : Int) := by omega
    have hne2 : (m : Int) ≤ (n1 : Int) := by omega
    clear R1 R2 Hb
    go_enter Try.func89, Try.ntmps89
    go_wp2
    go_ret
    exact ⟨ret_bool (by rw [Hq.out]), Below.refl _ _⟩
  have hm1 : (m : Int) ≤ (n1 : Int) := by omega
  have hm2 : (m : Int) ≤ (n2 : Int) := by omega
  have hd1 : decide (n1 < m) = false := by simp; omega
  have hd2 : decide (n2 < m) = false := by simp; omega
  go_enter Try.func89, Try.ntmps89
  go_wp2
  go_loopw [7] (fun i wr => ∃ k : Nat, i = .int .i64 (k : Int) ∧ k ≤ m ∧ Hid (∀ j (a : j < l1.length) (b : j < l2.length), j < k → l1[j] = l2[j]) ∧ Below w.heap.size w wr) (fun i _ => m - (intOf i).toNat)
  case atStart => exact ⟨0, rfl, Nat.zero_le _, Lib.hid (fun j _ _ h => by omega), Below.refl _ _⟩
  case round =>
    obtain ⟨k, rfl, hk, Hall, hb⟩ := hrel
    by_cases hlt : k < m
    · have hlt2 : (k : Int) < (m : Int) := by omega
      have hlt3 : (k : Int) < (n1 : Int) := by omega
      have hlt4 : (k : Int) < (n2 : Int) := by omega
      have hk1 : k < l1.length := by have := Hn1.out; omega
      have hk2 : k < l2.length := by have := Hn2.out; omega
      obtain ⟨g1, o1, rfl, hg1, hc1⟩ := R1.out (by omega)
      obtain ⟨g2, o2, rfl, hg2, hc2⟩ := R2.out (by omega)
      have at1 := (hc1 k hk1).below hg1 hb
      have at2 := (hc2 k hk2).below hg2 hb
      have hg1' : g1 < wr.heap.size := by have := hb.size; omega
      have hg2' : g2 < wr.heap.size := by have := hb.size; omega
      have hv1 := ent_le Hs1.out hk1
      have hv2 := ent_le Hs2.out hk2
      have Hne : Hid (¬ l1[k] = l2[k] → q = false) := Lib.hid fun h => by
        rw [Hb.out]
        refine pB_false fun e => h ?_
        have := congrArg (fun l => l[k]?) e.2.2
        simp only [List.getElem?_take_of_lt hlt, List.getElem?_eq_getElem hk1, List.getElem?_eq_getElem hk2] at this
        exact Option.some.inj this
      have Hnx : Hid (l1[k] = l2[k] → ∀ j (a : j < l1.length) (b : j < l2.length), j < k + 1 → l1[j] = l2[j]) := Lib.hid fun h j a b hj => by
        by_cases e : j = k
        · subst e; exact h
        · exact Hall.out j a b (by omega)
      obtain ⟨x, es⟩ : ∃ x, l1[k] = x := ⟨_, rfl⟩
      obtain ⟨y, et⟩ : ∃ y, l2[k] = y := ⟨_, rfl⟩
      rw [es] at at1 Hne Hnx hv1
      rw [et] at at2 Hne Hnx hv2
      clear hc1 hc2 es et hk1 hk2
      obtain ⟨d0, d1, d2, d3, d4, ⟨u5, d5, ru5⟩, ⟨u6, d6, ru6⟩, d7, _⟩ := at_entry at1
      obtain ⟨e0, e1, e2, e3, e4, ⟨v5, e5, rv5⟩, ⟨v6, e6, rv6⟩, e7, _⟩ := at_entry at2
      rw [show o1 + k * Cod.entry.size = o1 + k * 8 from rfl, show o2 + k * Cod.entry.size = o2 + k * 8 from rfl] at *
      obtain ⟨pu5, cu5, rfl, -⟩ := ru5.form
      obtain ⟨pu6, cu6, rfl, -⟩ := ru6.form
      obtain ⟨pv5, cv5, rfl, -⟩ := rv5.form
      obtain ⟨pv6, cv6, rfl, -⟩ := rv6.form
      clear at1 at2
      obtain ⟨T, ⟨K, X, I, L, R, W, Y⟩⟩ := x
      obtain ⟨T', ⟨K', X', I', L', R', W', Y'⟩⟩ := y
      dsimp only at *
      have Hc : Hid (∀ W0, Below wr.heap.size wr W0 → Calls Try.prog 97 #[.agg #[.int .i64 K, .int .i64 X, .int .i64 I, .int .i64 L, .slice pu5 R.length cu5, .slice pu6 W.length cu6, .bool Y], .agg #[.int .i64 K', .int .i64 X', .int .i64 I', .int .i64 L', .slice pv5 R'.length cv5, .slice pv6 W'.length cv6, .bool Y']] W0 fun e w' => e = .returned (.bool (pB ((⟨K, X, I, L, R, W, Y⟩ : RecD) = ⟨K', X', I', L', R', W', Y'⟩))) ∧ Below W0.heap.size W0 w') :=
        Lib.hid (fun W0 k => l9SameRec_any ⟨K, X, I, L, R, W, Y⟩ ⟨K', X', I', L', R', W', Y'⟩ hv1.1 hv1.2 hv2.1 hv2.2 W0 _ _ _ _ (ru5.below k) (ru6.below k) (rv5.below k) (rv6.below k))
      have Hpq : Hid (pB ((⟨K, X, I, L, R, W, Y⟩ : RecD) = ⟨K', X', I', L', R', W', Y'⟩) = true → (⟨K, X, I, L, R, W, Y⟩ : RecD) = ⟨K', X', I', L', R', W', Y'⟩) := Lib.hid pB_iff.1
      have Hpn : Hid (pB ((⟨K, X, I, L, R, W, Y⟩ : RecD) = ⟨K', X', I', L', R', W', Y'⟩) = false → ¬ (⟨K, X, I, L, R, W, Y⟩ : RecD) = ⟨K', X', I', L', R', W', Y'⟩) := Lib.hid fun h e => by rw [pB_true e] at h; cases h
      clear hv1 hv2 ru5 ru6 rv5 rv6
      generalize pB ((⟨K, X, I, L, R, W, Y⟩ : RecD) = ⟨K', X', I', L', R', W', Y'⟩) = qq at *
      generalize R.length = nR at *
      generalize W.length = nW at *
      generalize R'.length = nR' at *
      generalize W'.length = nW' at *
      by_cases hT : T = T'
      · have HT := Lib.hid hT
        subst hT
        cases qq
        · have Hq := Lib.hid (Hne.out (fun e => Hpn.out rfl (by injection e)))
          clear Hne Hnx Hpq Hpn
          go_wp2_with fail
          refine wp_region_ext (by kernel_rfl) (by kernel_rfl) wr.heap.size ?_
          have hx2 := fun (u : World) (b o : Nat) (h : b < wr.heap.size) => ext_cell wr u b o h
          repeat (any_goals (go_big_quiet_step ((go_at_call 97; exact calls_ext (by first | (simp; done) | omega | (simp; omega)) (Hc.out _ (ext_below _ _ _))))))
          refine wpQuiet_nil ?_
          intro w2 hb2
          clear hx2
          go_wp2
          go_ret
          exact ⟨ret_bool (by rw [Hq.out]), below_after hb2 hb⟩
        · have Hq := Lib.hid (Hnx.out (by rw [Hpq.out rfl]))
          clear Hne Hnx Hpq Hpn
          go_wp2_with fail
          refine wp_region_ext (by kernel_rfl) (by kernel_rfl) wr.heap.size ?_
          have hx2 := fun (u : World) (b o : Nat) (h : b < wr.heap.size) => ext_cell wr u b o h
          repeat (any_goals (go_big_quiet_step ((go_at_call 97; exact calls_ext (by first | (simp; done) | omega | (simp; omega)) (Hc.out _ (ext_below _ _ _))))))
          refine wpQuiet_nil ?_
          intro w2 hb2
          clear hx2
          go_wp2
          go_roundw
          case rel =>
            exact ⟨k + 1, by go_num, by omega, Hq, below_after hb2 hb⟩
          case measure => simp [intOf]; omega
      · have Hq := Lib.hid (Hne.out (fun e => hT (by injection e)))
        clear Hne Hnx Hpq Hpn
        have hTb : (T != T') = true := by simpa using hT
        go_wp2_with fail
        refine wp_region_ext (by kernel_rfl) (by kernel_rfl) wr.heap.size ?_
        have hx2 := fun (u : World) (b o : Nat) (h : b < wr.heap.size) => ext_cell wr u b o h
        repeat (any_goals (go_big_quiet_step ((go_at_call 97; exact calls_ext (by first | (simp; done) | omega | (simp; omega)) (Hc.out _ (ext_below _ _ _))))))
        refine wpQuiet_nil ?_
        intro w2 hb2
        clear hx2
        go_wp2
        go_ret
        exact ⟨ret_bool (by rw [Hq.out]), below_after hb2 hb⟩
    · have hlt2 : (m : Int) ≤ (k : Int) := by omega
      obtain rfl : k = m := by omega
      have Hq : Hid (q = true) := Lib.hid (by
        rw [Hb.out]
        have h1 := Hn1.out
        have h2 := Hn2.out
        refine pB_true ⟨by omega, by omega, List.ext_getElem (by rw [List.length_take, List.length_take]; omega) fun j a b => ?_⟩
        rw [List.length_take] at a b
        rw [List.getElem_take, List.getElem_take]
        exact Hall.out j (by omega) (by omega) (by omega))
      go_wp2
      go_ret
      exact ⟨ret_bool (by rw [Hq.out]), hb⟩

end Go.Proofs.Ytfaefjdlfjhniaa

