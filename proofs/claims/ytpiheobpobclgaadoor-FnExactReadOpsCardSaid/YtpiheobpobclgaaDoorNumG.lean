/- spec.l5Num, spec.NumberIn. -/
import Derived.Test.YtpiheobpobclgaaDoorNumF
namespace Go.Proofs.YtpiheobpobclgaaDoor
open Go.RowKit

theorem readS_neg {l : List UInt8} (h : l.head? = some 45) : readS l = if readD (l.drop 1) ≤ 0 then (0, false) else (-readD (l.drop 1), true) := by
  cases l with
  | nil => cases h
  | cons c r =>
    simp only [List.head?_cons, Option.some.injEq] at h
    subst h
    rfl
theorem readS_pos {l : List UInt8} (h : l.head? ≠ some 45) : readS l = if readD l < 0 then (0, false) else (readD l, true) := by
  unfold readS
  split
  · exact absurd rfl h
  · rfl
theorem readD_in (l : List UInt8) : -1 ≤ readD l ∧ readD l ≤ 999999 := by
  by_cases h : 0 ≤ readD l
  · obtain ⟨n, hn, he, _⟩ := readD_pos h
    omega
  · unfold readD at h ⊢
    by_cases hc : 1 ≤ l.length ∧ l.length ≤ 6 ∧ ¬ (l.head? = some 48 ∧ 1 < l.length)
    · rw [if_pos hc] at h ⊢
      cases hd : Lib.decFrom 0 l with
      | none => simp
      | some n => rw [hd] at h; simp at h
    · rw [if_neg hc]; simp

set_option maxRecDepth 100000 in
set_option maxHeartbeats 1600000 in
/-- spec.l5Num -/
theorem l5Num_any (s : ByteArray) (hs : s.size ≤ 1048576) (w : World) : Calls Tryd.prog 30 #[.string s] w fun e w' => e = .returned (.tuple #[.int .i64 (readS s.data.toList).1, .bool (readS s.data.toList).2]) ∧ w = w' := by
  have hl : s.data.toList.length = s.size := by rw [Array.length_toList]; rfl
  have hsI : (s.size : Int) ≤ 1048576 := by omega
  have H1 := Lib.hid (fun W => l1Read_any s hs W)
  have H2 := Lib.hid (fun W => l1Read_any (s.extract 1 s.size) (by rw [ByteArray.size_extract]; omega) W)
  have hex : (s.extract 1 s.size).data.toList = s.data.toList.drop 1 := by
    rw [ByteArray.data_extract, Array.toList_extract]
    simp only [List.extract_eq_take_drop]
    exact List.take_of_length_le (by rw [List.length_drop, hl]; exact Nat.le_refl _)
  rw [hex] at H2
  by_cases h0 : 0 < s.size
  · have h0I : (0 : Int) < (s.size : Int) := by omega
    have h1I : (1 : Int) ≤ (s.size : Int) := by omega
    have hhead : s.data.toList.head? = some s[0] := by
      rw [List.head?_eq_getElem?, List.getElem?_eq_getElem (by omega)]
      rfl
    have hc0 : (s[0].toNat : Int) ≤ 255 := by have := s[0].toNat_lt; omega
    by_cases h45 : s[0] = 45
    · have hr := readS_neg (l := s.data.toList) (by rw [hhead, h45])
      have hb := readD_in (s.data.toList.drop 1)
      have h45I : (s[0].toNat : Int) = 45 := by rw [h45]; rfl
      rw [hr]
      generalize readD (s.data.toList.drop 1) = R at *
      clear hr hhead h45 hl hex H1
      by_cases hR : R ≤ 0
      · rw [if_pos hR]
        by_cases hR0 : R < 0
        · go_enter Tryd.func30, Tryd.ntmps30
          go_wp2_with fail
          refine (H2.out _).mono ?_
          rintro e w1 ⟨rfl, rfl⟩
          go_wp2
          go_ret2
          exact ⟨rfl, rfl⟩
        · obtain rfl : R = 0 := by omega
          clear hb hR hR0
          go_enter Tryd.func30, Tryd.ntmps30
          go_wp2_with fail
          refine (H2.out _).mono ?_
          rintro e w1 ⟨rfl, rfl⟩
          go_wp2
          go_ret2
          exact ⟨rfl, rfl⟩
      · rw [if_neg hR]
        have hR0 : ¬ R < 0 := by omega
        have hR1 : (R == 0) = false := by simp; omega
        have hR2 : R ≤ 999999 := hb.2
        have hR3 : 0 < R := by omega
        go_enter Tryd.func30, Tryd.ntmps30
        go_wp2_with fail
        refine (H2.out _).mono ?_
        rintro e w1 ⟨rfl, rfl⟩
        go_wp2
        go_ret2
        exact ⟨rfl, rfl⟩
    · have hr := readS_pos (l := s.data.toList) (by rw [hhead]; intro e; injection e with e; exact h45 e)
      have hb := readD_in s.data.toList
      have h45I : ((s[0].toNat : Int) == 45) = false := by
        simp only [beq_eq_false_iff_ne, ne_eq]
        intro h
        exact h45 (UInt8.toNat_inj.1 (by rw [show (45 : UInt8).toNat = 45 from rfl]; omega))
      rw [hr]
      generalize readD s.data.toList = R at *
      clear hr hhead h45 hl hex H2
      by_cases hR : R < 0
      · rw [if_pos hR]
        go_enter Tryd.func30, Tryd.ntmps30
        go_wp2_with fail
        refine (H1.out _).mono ?_
        rintro e w1 ⟨rfl, rfl⟩
        go_wp2
        go_ret2
        exact ⟨rfl, rfl⟩
      · rw [if_neg hR]
        have hR1 : 0 ≤ R := by omega
        go_enter Tryd.func30, Tryd.ntmps30
        go_wp2_with fail
        refine (H1.out _).mono ?_
        rintro e w1 ⟨rfl, rfl⟩
        go_wp2
        go_ret2
        exact ⟨rfl, rfl⟩
  · have hz : s.data.toList = [] := List.length_eq_zero_iff.1 (by omega)
    have h0I : (s.size : Int) = 0 := by omega
    rw [hz] at H1 ⊢
    rw [show readD [] = -1 from rfl] at H1
    rw [show readS [] = (0, false) from rfl]
    clear hz hex H2 h0 hl hsI
    go_enter Tryd.func30, Tryd.ntmps30
    go_wp2_with fail
    refine (H1.out _).mono ?_
    rintro e w1 ⟨rfl, rfl⟩
    go_wp2
    go_ret2
    exact ⟨rfl, rfl⟩

/-- spec.NumberIn -/
theorem numberInS_any (s : ByteArray) (hs : s.size ≤ 1048576) (w : World) : Calls Tryd.prog 12 #[.string s] w fun e w' => e = .returned (.tuple #[.int .i64 (readS s.data.toList).1, .bool (readS s.data.toList).2]) ∧ w = w' := by
  have Hr := Lib.hid (fun W => l5Num_any s hs W)
  go_enter Tryd.func12, Tryd.ntmps12
  go_wp2_with fail
  refine (Hr.out _).mono ?_
  rintro e w1 ⟨rfl, rfl⟩
  go_wp2
  go_ret2
  exact ⟨rfl, rfl⟩

end Go.Proofs.YtpiheobpobclgaaDoor
