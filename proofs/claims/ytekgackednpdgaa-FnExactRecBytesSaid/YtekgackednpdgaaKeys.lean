/- Keys and values: which bytes they hold. -/
import Derived.Test.YtekgackednpdgaaSpans
import Derived.Test.YtekgackednpdgaaPlainBytes
import Derived.Lib.Bytealg
import Derived.Lib.IndexLaws
namespace Go.Proofs.Ytekgackednpdgaa
open Go.RowKit

/-- A lower letter or a digit. -/
def lowB (c : UInt8) : Bool := (decide (97 ≤ (c.toNat : Int)) && decide ((c.toNat : Int) ≤ 122)) || (decide (48 ≤ (c.toNat : Int)) && decide ((c.toNat : Int) ≤ 57))
/-- All bytes are such or among some others. -/
def hasL (l others : List UInt8) : Bool := l.all fun c => lowB c || others.contains c
theorem hasL_snoc (l others : List UInt8) (c : UInt8) : hasL (l ++ [c]) others = (hasL l others && (lowB c || others.contains c)) := by simp [hasL]

theorem hasL_take_false {l others : List UInt8} {k : Nat} (h : hasL (l.take k) others = false) : hasL l others = false := by
  rw [Bool.eq_false_iff]
  intro ht
  have : hasL (l.take k) others = true := List.all_eq_true.2 fun x hx => List.all_eq_true.1 ht x (List.mem_of_mem_take hx)
  rw [h] at this
  cases this
theorem indexByte_neg (l : List UInt8) (c : UInt8) : decide (Lib.indexByte l c < 0) = !l.contains c := by
  have hge := Lib.indexByte_ge l c
  by_cases h : Lib.indexByte l c = -1
  · have hn := Lib.indexByte_none h
    have hc : l.contains c = false := by
      rw [Bool.eq_false_iff]
      intro hc
      obtain ⟨k, hk, e⟩ := List.getElem_of_mem (by simpa using hc : c ∈ l)
      exact hn k (by rw [List.getElem?_eq_getElem hk, e])
    rw [h, hc]; rfl
  · obtain ⟨o, ho⟩ := Int.eq_ofNat_of_zero_le (show 0 ≤ Lib.indexByte l c by omega)
    have hs := (Lib.indexByte_some ho).1
    have hc : l.contains c = true := by
      have := List.mem_of_getElem? hs
      simpa using this
    rw [ho, hc]
    simp

/-- impl.isLowerOrDigit -/
theorem isLower_any (c : UInt8) (w : World) : Calls Try.prog 185 #[.int .u8 (c.toNat : Int)] w fun e w' => e = .returned (.bool (lowB c)) ∧ w = w' := by
  unfold lowB
  generalize (c.toNat : Int) = n
  by_cases h1 : 97 ≤ n <;> by_cases h2 : n ≤ 122 <;> by_cases h3 : 48 ≤ n <;> by_cases h4 : n ≤ 57 <;>
    first | (exfalso; omega) | (go_enter Try.func185, Try.ntmps185; go_wp2; go_ret; exact ⟨by simp [h1, h2, h3, h4], rfl⟩)

theorem idxByteStr (s : ByteArray) (c : Int) (w : World) : (callFunc 201 #[.string s, .int .u8 c]).run Try.prog w = .ok (.value (.int .i64 (Lib.indexByte s.data.toList c.toNat.toUInt8))) w := by
  rw [run_callFunc_extern Try.func201 (by kernel_rfl) (by kernel_rfl) (by kernel_rfl) (e := Extern.BytealgIndexByte.indexByte) (by kernel_rfl), Lib.run_indexByteString]
  rfl

/-- strings.IndexByte -/
theorem indexByte_any (s : ByteArray) (c : Int) (w : World) : Calls Try.prog 186 #[.string s, .int .u8 c] w fun e w' => e = .returned (.int .i64 (Lib.indexByte s.data.toList c.toNat.toUInt8)) ∧ w = w' := by
  have h := idxByteStr s c
  go_enter Try.func186, Try.ntmps186
  go_wp2
  go_ret
  exact ⟨rfl, rfl⟩

/-- impl.hasBytes -/
theorem hasBytes_any (s others : ByteArray) (hs : s.size ≤ maxLen) (w : World) : Calls Try.prog 155 #[.string s, .string others] w fun e w' => e = .returned (.bool (hasL s.data.toList others.data.toList)) ∧ w = w' := by
  unfold maxLen at hs
  go_enter Try.func155, Try.ntmps155
  go_wp2
  go_loop [5, 8] (fun _ i => ∃ k : Nat, k ≤ s.size ∧ i = .int .i64 k ∧ Hid (hasL (s.data.toList.take k) others.data.toList = true)) (fun _ i => s.size - (intOf i).toNat)
  case atStart => exact ⟨0, Nat.zero_le _, rfl, rfl⟩
  case round =>
    obtain ⟨k, hk, rfl, hh⟩ := hrel
    by_cases hlt : k < s.size
    · have hsn := hasL_snoc (s.data.toList.take k) others.data.toList s[k]
      rw [← take_snoc s k hlt, hh.out, Bool.true_and] at hsn
      have hcb : (s[k].toNat : Int) ≤ 255 := by have := s[k].toNat_lt; omega
      have Hi := Lib.hid (isLower_any s[k])
      have Hj := Lib.hid (indexByte_any others (s[k].toNat : Int))
      have hneg := indexByte_neg others.data.toList s[k]
      have hb : ((s[k].toNat : Int)).toNat.toUInt8 = s[k] := by simp
      rw [hb] at Hj
      clear hb
      generalize Lib.indexByte others.data.toList s[k] = ib at *
      generalize hlo : lowB s[k] = lo at *
      clear hlo
      cases lo
      · cases hc : others.data.toList.contains s[k]
        · rw [hc] at hneg hsn
          have hib : ib < 0 := by simpa using hneg
          have Hsn := Lib.hid hsn
          clear hsn hneg hc
          go_wp2_with (first | (go_at_call 185; refine (Hi.out _).mono ?_; rintro e w1 ⟨rfl, rfl⟩) | (go_at_call 186; refine (Hj.out _).mono ?_; rintro e w1 ⟨rfl, rfl⟩))
          go_ret
          exact ⟨ret_bool (hasL_take_false (k := k + 1) (by have := Hsn.out; simpa using this)).symm, rfl⟩
        · rw [hc] at hneg hsn
          have hib : ¬ ib < 0 := by simpa using hneg
          have Hsn := Lib.hid hsn
          clear hsn hneg hc
          go_wp2_with (first | (go_at_call 185; refine (Hi.out _).mono ?_; rintro e w1 ⟨rfl, rfl⟩) | (go_at_call 186; refine (Hj.out _).mono ?_; rintro e w1 ⟨rfl, rfl⟩))
          go_round
          case rel => exact ⟨k + 1, by omega, by go_num, Lib.hid (by have := Hsn.out; simpa using this)⟩
          case measure => simp [intOf]; omega
      · have Hsn := Lib.hid hsn
        clear hsn hneg
        go_wp2_with (go_at_call 185; refine (Hi.out _).mono ?_; rintro e w1 ⟨rfl, rfl⟩)
        go_round
        case rel => exact ⟨k + 1, by omega, by go_num, Lib.hid (by have := Hsn.out; simpa using this)⟩
        case measure => simp [intOf]; omega
    · go_wp2
      go_ret
      exact ⟨ret_bool (by have := hh.out; rw [List.take_of_length_le (by simp; omega)] at this; exact this.symm), rfl⟩

theorem contains_snoc (l : List UInt8) (x c : UInt8) : (l ++ [x]).contains c = (l.contains c || ((c.toNat : Int) == (x.toNat : Int))) := by
  rw [Bool.eq_iff_iff]
  simp only [List.contains_iff_mem, List.mem_append, List.mem_singleton, Bool.or_eq_true, beq_iff_eq]
  constructor
  · rintro (h | rfl)
    · exact Or.inl h
    · exact Or.inr rfl
  · rintro (h | h)
    · exact Or.inl h
    · exact Or.inr (UInt8.toNat_inj.1 (by omega))

/-- spec.l3Bytes -/
theorem l3Bytes_any (s others : ByteArray) (hs : s.size ≤ maxLen) (ho : others.size ≤ maxLen) (w : World) : Calls Try.prog 153 #[.string s, .string others] w fun e w' => e = .returned (.bool (hasL s.data.toList others.data.toList)) ∧ Below w.heap.size w w' := by
  unfold maxLen at hs ho
  go_enter Try.func153, Try.ntmps153
  go_wp2
  go_loopw [5, 6, 7] (fun i _ _ wr => ∃ k : Nat, k ≤ s.size ∧ i = .int .i64 k ∧ Hid (hasL (s.data.toList.take k) others.data.toList = true) ∧ ∃ n, wr = w.drewN n) (fun i _ _ _ => s.size - (intOf i).toNat)
  case atStart => exact ⟨0, Nat.zero_le _, rfl, rfl, 0, rfl⟩
  case round =>
    obtain ⟨k, hk, rfl, hh, n, rfl⟩ := hrel
    by_cases hlt : k < s.size
    · have hsn := hasL_snoc (s.data.toList.take k) others.data.toList s[k]
      rw [← take_snoc s k hlt, hh.out, Bool.true_and] at hsn
      obtain ⟨c, hc⟩ : ∃ c, s[k] = c := ⟨_, rfl⟩
      rw [hc] at hsn
      have hcb : (c.toNat : Int) ≤ 255 := by have := c.toNat_lt; omega
      have Hsn := Lib.hid hsn
      clear hsn
      have low1 : ∀ n : Int, n = (c.toNat : Int) → ((97 ≤ n ∧ n ≤ 122) ∨ (48 ≤ n ∧ n ≤ 57)) → Hid (lowB c = true) := fun n hn h => Lib.hid (by subst hn; simp [lowB]; omega)
      have low0 : ∀ n : Int, n = (c.toNat : Int) → ((122 < n) ∨ (57 < n ∧ n < 97) ∨ n < 48) → Hid (lowB c = false) := fun n hn h => Lib.hid (by subst hn; simp [lowB]; omega)
      have hcases : ∃ b : Bool, Hid (lowB c = b) ∧ (((97 ≤ (c.toNat : Int) ∧ (c.toNat : Int) ≤ 122) ∧ b = true) ∨ ((122 < (c.toNat : Int)) ∧ b = false) ∨ ((48 ≤ (c.toNat : Int) ∧ (c.toNat : Int) ≤ 57) ∧ b = true) ∨ ((57 < (c.toNat : Int) ∧ (c.toNat : Int) < 97) ∧ b = false) ∨ ((c.toNat : Int) < 48) ∧ b = false) := by
        by_cases h1 : 97 ≤ (c.toNat : Int) ∧ (c.toNat : Int) ≤ 122
        · exact ⟨true, low1 _ rfl (Or.inl h1), Or.inl ⟨h1, rfl⟩⟩
        · by_cases h2 : 48 ≤ (c.toNat : Int) ∧ (c.toNat : Int) ≤ 57
          · exact ⟨true, low1 _ rfl (Or.inr h2), Or.inr (Or.inr (Or.inl ⟨h2, rfl⟩))⟩
          · refine ⟨false, low0 _ rfl (by omega), ?_⟩
            by_cases h3 : 122 < (c.toNat : Int)
            · exact Or.inr (Or.inl ⟨h3, rfl⟩)
            · by_cases h4 : (c.toNat : Int) < 48
              · exact Or.inr (Or.inr (Or.inr (Or.inr ⟨h4, rfl⟩)))
              · exact Or.inr (Or.inr (Or.inr (Or.inl ⟨by omega, rfl⟩)))
      clear low1 low0
      obtain ⟨b, Hb, hcases⟩ := hcases
      rcases hcases with ⟨g, rfl⟩ | ⟨g, rfl⟩ | ⟨g, rfl⟩ | ⟨g, rfl⟩ | ⟨g, rfl⟩
      all_goals
        go_wp2
        go_loopw [6, 7] (fun q j wr => ∃ (m : Nat) (q0 : Bool), m ≤ others.size ∧ j = .int .i64 m ∧ q = .bool q0 ∧ Hid (q0 = (lowB c || (others.data.toList.take m).contains c)) ∧ ∃ n, wr = w.drewN n) (fun _ j _ => others.size - (intOf j).toNat)
        case atStart => exact ⟨0, _, Nat.zero_le _, rfl, rfl, Lib.hid (by rw [Hb.out]; first | rfl | (simp; omega)), n, rfl⟩
        case round =>
          obtain ⟨m, q0, hm, rfl, rfl, Hq, n', rfl⟩ := hrel
          by_cases hmt : m < others.size
          · have hsn := contains_snoc (others.data.toList.take m) others[m] c
            rw [← take_snoc others m hmt] at hsn
            have hcb2 : (others[m].toNat : Int) ≤ 255 := by have := others[m].toNat_lt; omega
            have Hsn2 := Lib.hid hsn
            clear hsn
            cases q0
            · go_wp2
              go_quiet (fail)
              go_wp2
              go_roundw
              case rel => exact ⟨m + 1, _, by omega, by go_num, rfl, Lib.hid (by rw [Hsn2.out, ← Bool.or_assoc, ← Hq.out, Bool.false_or]), _, rfl⟩
              case measure => simp [intOf]; omega
            · go_wp2
              go_quiet (fail)
              go_wp2
              go_roundw
              case rel => exact ⟨m + 1, _, by omega, by go_num, rfl, Lib.hid (by rw [Hsn2.out, ← Bool.or_assoc, ← Hq.out, Bool.true_or]), _, rfl⟩
              case measure => simp [intOf]; omega
          · have hm2 : others.data.toList.take m = others.data.toList := List.take_of_length_le (by simp; omega)
            have Hsn3 : Hid (hasL (s.data.toList.take (k + 1)) others.data.toList = q0) := Lib.hid (by rw [Hsn.out, Hq.out, hm2])
            clear hm2
            cases q0
            · go_wp2
              go_ret
              exact ⟨ret_bool (hasL_take_false (k := k + 1) Hsn3.out).symm, below_drewN (Below.refl _ _) _⟩
            · go_wp2
              go_roundw
              case rel => exact ⟨k + 1, by omega, by go_num, Hsn3, _, rfl⟩
              case measure => simp [intOf]; omega
    · go_wp2
      go_ret
      exact ⟨ret_bool (by have := hh.out; rw [List.take_of_length_le (by simp; omega)] at this; exact this.symm), below_drewN (Below.refl _ _) _⟩

end Go.Proofs.Ytekgackednpdgaa
