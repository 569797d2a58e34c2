/- Decimal numerals: what NumberIn reads. Plain lemmas; no program. -/
import Derived.Lib.AtoiTie
import Derived.Lib.AtoiAllCases
import Derived.Lib.ItoaMem
import Derived.Test.YtpiheobpobclgaaGreatDoorCore
namespace Go.Proofs.YtpiheobpobclgaaGreatDoor
open Go.Lib

theorem decFrom_app : ∀ (l m : List UInt8) (acc : Nat), decFrom acc (l ++ m) = (decFrom acc l).bind fun a => decFrom a m
  | [], _, _ => rfl
  | b :: l, m, acc => by
    show (match digitVal b with | some d => decFrom (acc * 10 + d) (l ++ m) | none => none) = _
    show _ = (match digitVal b with | some d => decFrom (acc * 10 + d) l | none => none).bind _
    cases digitVal b with
    | none => rfl
    | some d => exact decFrom_app l m _
theorem digit_of {d : Nat} (h : d < 10) : digitVal (UInt8.ofNat (48 + d)) = some d := by
  have e : (UInt8.ofNat (48 + d)).toNat = 48 + d := by rw [UInt8.toNat_ofNat']; omega
  unfold digitVal
  rw [e, if_pos (by omega)]
  simp
theorem digit_byte {b : UInt8} {d : Nat} (h : digitVal b = some d) : d < 10 ∧ b = UInt8.ofNat (48 + d) := by
  obtain ⟨h1, h2, h3⟩ := digitVal_eq h
  refine ⟨by omega, UInt8.toNat_inj.1 ?_⟩
  rw [UInt8.toNat_ofNat']
  omega
theorem decDigits_big {u : Nat} (h : ¬ u < 10) : decDigits u = decDigits (u / 10) ++ [UInt8.ofNat (48 + u % 10)] := by rw [decDigits, dif_neg h]
theorem decFrom_dec : ∀ u : Nat, decFrom 0 (decDigits u) = some u := by
  intro u
  induction u using Nat.strongRecOn with
  | ind u ih =>
    by_cases h : u < 10
    · rw [decDigits_one h]
      show (match digitVal (UInt8.ofNat (48 + u)) with | some d => decFrom (0 * 10 + d) [] | none => none) = _
      rw [digit_of h]
      simp [decFrom]
    · rw [decDigits_big h, decFrom_app, ih (u / 10) (by omega)]
      show (match digitVal (UInt8.ofNat (48 + u % 10)) with | some d => decFrom (u / 10 * 10 + d) [] | none => none) = _
      rw [digit_of (by omega)]
      simp only [decFrom]
      congr 1
      omega
theorem decDigits_ne (u : Nat) : decDigits u ≠ [] := by
  by_cases h : u < 10
  · rw [decDigits_one h]; simp
  · rw [decDigits_big h]; simp
theorem decDigits_head : ∀ u : Nat, 1 ≤ u → ∀ b, (decDigits u).head? = some b → b ≠ 48 ∧ 48 ≤ b.toNat ∧ b.toNat ≤ 57 := by
  intro u
  induction u using Nat.strongRecOn with
  | ind u ih =>
    intro h1 b hb
    by_cases h : u < 10
    · rw [decDigits_one h] at hb
      simp only [List.head?_cons, Option.some.injEq] at hb
      subst hb
      have e : (UInt8.ofNat (48 + u)).toNat = 48 + u := by rw [UInt8.toNat_ofNat']; omega
      refine ⟨fun e2 => ?_, by omega, by omega⟩
      rw [e2] at e
      have : (48 : UInt8).toNat = 48 := rfl
      omega
    · rw [decDigits_big h, List.head?_append] at hb
      cases hh : (decDigits (u / 10)).head? with
      | none =>
        rw [List.head?_eq_none_iff] at hh
        exact absurd hh (decDigits_ne _)
      | some c =>
        rw [hh] at hb
        simp only [Option.some_or, Option.some.injEq] at hb
        subst hb
        exact ih (u / 10) (by omega) (by omega) c hh
theorem decDigits_canon : ∀ (l : List UInt8) (n : Nat), decFrom 0 l = some n → l ≠ [] → (l.length = 1 ∨ l.head? ≠ some 48) → decDigits n = l := by
  intro l
  induction hl : l.length using Nat.strongRecOn generalizing l with
  | ind k ih =>
    intro n h hne hc
    subst hl
    obtain ⟨m, b, rfl⟩ : ∃ m b, l = m ++ [b] := ⟨l.dropLast, l.getLast hne, (List.dropLast_concat_getLast hne).symm⟩
    rw [decFrom_app] at h
    cases hm : decFrom 0 m with
    | none => rw [hm] at h; cases h
    | some k0 =>
      rw [hm] at h
      have h2 : (match digitVal b with | some d => decFrom (k0 * 10 + d) [] | none => none) = some n := h
      cases hd : digitVal b with
      | none => rw [hd] at h2; cases h2
      | some d =>
        rw [hd] at h2
        simp only [decFrom, Option.some.injEq] at h2
        obtain ⟨d10, rfl⟩ := digit_byte hd
        by_cases hm0 : m = []
        · subst hm0
          simp only [decFrom, Option.some.injEq] at hm
          subst hm
          rw [show n = d from by omega, decDigits_one d10]
          rfl
        · have hhead : m.head? ≠ some 48 := by
            rcases hc with hc | hc
            · simp at hc; exact absurd hc hm0
            · rw [List.head?_append] at hc
              cases hh : m.head? with
              | none => simp
              | some c => rw [hh] at hc; simpa using hc
          have hk := ih m.length (by simp) m rfl k0 hm hm0 (Or.inr hhead)
          have hk1 : 1 ≤ k0 := by
            rcases Nat.eq_zero_or_pos k0 with h0 | h0
            · subst h0
              rw [decDigits_one (by decide)] at hk
              rw [← hk] at hhead
              simp at hhead
            · exact h0
          rw [decDigits_big (by omega), show n / 10 = k0 from by omega, show n % 10 = d from by omega, hk]
theorem nDigits_le : ∀ (k n : Nat), n < 10 ^ (k + 1) → nDigits n ≤ k + 1
  | 0, n, h => by rw [nDigits_small (by simpa using h)]; exact Nat.le_refl _
  | k + 1, n, h => by
    by_cases h1 : n < 10
    · rw [nDigits_small h1]; omega
    · rw [nDigits_big h1]
      have := nDigits_le k (n / 10) (by rw [Nat.pow_succ] at h; omega)
      omega
theorem dec6 {n : Nat} (h : n ≤ 999999) : (decDigits n).length ≤ 6 := by
  rw [decDigits_length]
  exact nDigits_le 5 n (by omega)

/-- What l1Read reads. -/
def readD (l : List UInt8) : Int := if 1 ≤ l.length ∧ l.length ≤ 6 ∧ ¬ (l.head? = some 48 ∧ 1 < l.length) then (match decFrom 0 l with | some n => (n : Int) | none => -1) else -1
theorem readD_dec {n : Nat} (h : n ≤ 999999) : readD (decDigits n) = (n : Int) := by
  have h1 : 1 ≤ (decDigits n).length := by have := decDigits_ne n; cases hh : decDigits n; exact absurd hh this; simp
  have h6 := dec6 h
  have hc : ¬ ((decDigits n).head? = some 48 ∧ 1 < (decDigits n).length) := by
    rintro ⟨h2, h3⟩
    rcases Nat.eq_zero_or_pos n with h0 | h0
    · subst h0; rw [decDigits_one (by decide)] at h3; simp at h3
    · exact (decDigits_head n h0 _ h2).1 rfl
  unfold readD
  rw [if_pos ⟨h1, h6, hc⟩, decFrom_dec]
theorem readD_pos {l : List UInt8} (h : 0 ≤ readD l) : ∃ n : Nat, n ≤ 999999 ∧ readD l = (n : Int) ∧ l = decDigits n := by
  unfold readD at h ⊢
  by_cases hc : 1 ≤ l.length ∧ l.length ≤ 6 ∧ ¬ (l.head? = some 48 ∧ 1 < l.length)
  · rw [if_pos hc] at h ⊢
    cases hd : decFrom 0 l with
    | none => rw [hd] at h; simp at h
    | some n =>
      have hlt := decFrom_lt l 0 n hd
      have hp : 10 ^ l.length ≤ 10 ^ 6 := Nat.pow_le_pow_right (by decide) hc.2.1
      refine ⟨n, by omega, rfl, (decDigits_canon l n hd (fun e => by rw [e] at hc; simp at hc) ?_).symm⟩
      by_cases h1 : l.length = 1
      · exact Or.inl h1
      · exact Or.inr fun e => hc.2.2 ⟨e, by omega⟩
  · rw [if_neg hc] at h; simp at h

/-- What impl's readInt gives between bounds. -/
def readI (l : List UInt8) (low high : Int) : Int × Bool := match atoiAll l with
  | .ok n => if (low ≤ n ∧ n ≤ high) ∧ itoa n = l then (n, true) else (0, false)
  | _ => (0, false)
/-- What spec's l5Num gives. -/
def readS (l : List UInt8) : Int × Bool := match l with
  | 45 :: r => if readD r ≤ 0 then (0, false) else (-readD r, true)
  | _ => if readD l < 0 then (0, false) else (readD l, true)

theorem atoi_dec {n : Nat} (h : n ≤ 999999) : parseMag (decDigits n) = .ok n := by
  rw [parseMag_short _ (Nat.le_trans (dec6 h) (by decide))]
  have : decNat (decDigits n) = some n := by
    unfold decNat
    rw [if_neg (by simpa using decDigits_ne n), decFrom_dec]
  rw [this]
  rfl
theorem atoi_itoa {n : Int} (h1 : -999999 ≤ n) (h2 : n ≤ 999999) : atoiAll (itoa n) = .ok n := by
  unfold itoa
  split
  · rename_i hn
    rw [atoiAll_minus, atoi_dec (by omega)]
    simp only [signed]
    rw [if_neg (by omega)]
    congr 1
    omega
  · rename_i hn
    obtain ⟨c, r, hcr⟩ : ∃ c r, decDigits n.toNat = c :: r := by
      cases hh : decDigits n.toNat with
      | nil => exact absurd hh (decDigits_ne _)
      | cons c r => exact ⟨c, r, rfl⟩
    have hcd : 48 ≤ c.toNat := by
      rcases Nat.eq_zero_or_pos n.toNat with h0 | h0
      · rw [h0, decDigits_one (by decide)] at hcr
        injection hcr with e1 _
        rw [← e1]; decide
      · exact (decDigits_head _ h0 c (by rw [hcr]; rfl)).2.1
    rw [hcr, atoiAll_plain c r (by omega) (by omega), ← hcr, atoi_dec (by omega)]
    simp only [signless]
    rw [if_neg (by omega)]
    congr 1
    omega
theorem readI_yes {l : List UInt8} {n : Int} (h1 : -999999 ≤ n) (h2 : n ≤ 999999) (h : l = itoa n) : readI l (-999999) 999999 = (n, true) := by
  subst h
  unfold readI
  rw [atoi_itoa h1 h2]
  simp [h1, h2]
theorem readI_only {l : List UInt8} (h : ∀ n : Int, -999999 ≤ n → n ≤ 999999 → l ≠ itoa n) : readI l (-999999) 999999 = (0, false) := by
  unfold readI
  cases atoiAll l with
  | ok n => exact if_neg fun ⟨⟨h1, h2⟩, h3⟩ => h n h1 h2 h3.symm
  | range => rfl
  | _ => rfl
theorem readS_eq (l : List UInt8) : readS l = readI l (-999999) 999999 := by
  have key : (∃ n : Int, -999999 ≤ n ∧ n ≤ 999999 ∧ l = itoa n ∧ readS l = (n, true)) ∨ (readS l = (0, false) ∧ ∀ n : Int, -999999 ≤ n → n ≤ 999999 → l ≠ itoa n) := by
    by_cases h45 : ∃ r, l = 45 :: r
    · obtain ⟨r, rfl⟩ := h45
      by_cases hr : readD r ≤ 0
      · refine Or.inr ⟨if_pos hr, fun n h1 h2 e => ?_⟩
        unfold itoa at e
        split at e
        · injection e with _ e
          rw [e, readD_dec (by omega)] at hr
          omega
        · rename_i hn
          have := (decDigits_head n.toNat)
          rcases Nat.eq_zero_or_pos n.toNat with h0 | h0
          · rw [h0, decDigits_one (by decide)] at e
            injection e with e _
            exact absurd e (by decide)
          · have h3 := (this h0 45 (by rw [← e]; rfl)).2.1
            exact absurd h3 (by decide)
      · obtain ⟨m, hm, he, rfl⟩ := readD_pos (l := r) (by omega)
        refine Or.inl ⟨-(m : Int), by omega, by omega, ?_, ?_⟩
        · rw [itoa_neg m (by omega)]
        · show (if readD (decDigits m) ≤ 0 then ((0 : Int), false) else (-readD (decDigits m), true)) = _
          rw [if_neg hr, he]
    · have hS : readS l = if readD l < 0 then (0, false) else (readD l, true) := by
        unfold readS
        split
        · rename_i r; exact absurd ⟨r, rfl⟩ h45
        · rfl
      rw [hS]
      by_cases hr : readD l < 0
      · refine Or.inr ⟨if_pos hr, fun n h1 h2 e => ?_⟩
        unfold itoa at e
        split at e
        · exact h45 ⟨_, e⟩
        · rw [e, readD_dec (by omega)] at hr
          omega
      · obtain ⟨m, hm, he, rfl⟩ := readD_pos (l := l) (by omega)
        refine Or.inl ⟨(m : Int), by omega, by omega, ?_, by rw [if_neg hr, he]⟩
        rw [itoa_nonneg]
  rcases key with ⟨n, h1, h2, h3, h4⟩ | ⟨h1, h2⟩
  · rw [h4, readI_yes h1 h2 h3]
  · rw [h1, readI_only h2]

end Go.Proofs.YtpiheobpobclgaaGreatDoor
