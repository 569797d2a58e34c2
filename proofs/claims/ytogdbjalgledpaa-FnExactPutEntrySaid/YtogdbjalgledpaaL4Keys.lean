/- spec.l4Keys. -/
import Derived.Test.YtogdbjalgledpaaRising
namespace Go.Proofs.Ytogdbjalgledpaa
open Go.RowKit

set_option maxRecDepth 100000 in
set_option maxHeartbeats 800000 in
/-- spec.l4Keys -/
theorem l4Keys_any (v : Value) (l : List ByteArray) (hl : l.length ≤ 1048576) (w : World) (h : Rd Cod.str w v l) :
    Calls Try.prog 124 #[v] w fun e w' => e = .returned (.bool (pB (Rising l) && decide (l.length ≤ 8))) ∧ Below w.heap.size w w' := by
  have hz := h.strLe.2
  have Hz := Lib.hid hz
  clear hz
  obtain ⟨p, c, rfl, _, _, r⟩ := h.form
  have R := Lib.hid r
  clear r h
  obtain ⟨n, hn⟩ : ∃ n : Nat, l.length = n := ⟨_, rfl⟩
  have Hn := Lib.hid hn
  rw [hn]
  have hnb : (n : Int) ≤ 1048576 := by omega
  clear hn hl
  go_enter Try.func124, Try.ntmps124
  go_wp2
  go_loopw [7] (fun i wr => ∃ k : Nat, i = .int .i64 (k : Int) ∧ k ≤ n ∧ Hid (∀ j, j < k → RisAt l j) ∧ Below w.heap.size w wr) (fun i _ => n - (intOf i).toNat)
  case atStart => exact ⟨0, rfl, Nat.zero_le _, Lib.hid (fun j h => by omega), Below.refl _ _⟩
  case round =>
    obtain ⟨k, rfl, hk, Hall, hb⟩ := hrel
    by_cases hlt : k < n
    · have hlt2 : (k : Int) < (n : Int) := by omega
      have hkl : k < l.length := by have := Hn.out; omega
      obtain ⟨g, o, rfl, hg, hc⟩ := R.out (by have := Hn.out; omega)
      have hgl : g < wr.heap.size := by have := hb.size; omega
      obtain ⟨_, d0, z0, _⟩ := (hc k hkl).below hg hb
      replace d0 : wr.cell? ⟨g, o + k, none⟩ = some (.string l[k]) := by
        have h2 : wr.cell? ⟨g, o + k * 1 + 0, none⟩ = some (.string l[k]) := d0
        rwa [Nat.mul_one] at h2
      have Hc := Lib.hid (l3Key_any l[k] z0)
      clear z0
      by_cases hk0 : k = 0
      · have hk1 : (k : Int) ≤ 0 := by omega
        have Hne : Hid (keyB l[k] = false → pB (Rising l) = false) := Lib.hid fun h => pB_false fun hr => by
          have := (hr k hkl hkl).1
          rw [h] at this
          cases this
        have Hnx : Hid (keyB l[k] = true → ∀ j, j < k + 1 → RisAt l j) := Lib.hid fun h j hj hjl => by
          by_cases e : j = k
          · subst e
            exact ⟨h, fun m hm => by omega⟩
          · exact Hall.out j (by omega) hjl
        obtain ⟨x, es⟩ : ∃ x, l[k] = x := ⟨_, rfl⟩
        rw [es] at d0 Hc Hne Hnx
        clear hc es hkl hk0
        generalize keyB x = b at *
        cases b
        · have Hq := Lib.hid (Hne.out (by first | rfl | trivial))
          go_wp2_with fail
          refine (Hc.out _).mono ?_
          rintro e w1 ⟨rfl, k1⟩
          have b1 := below_after k1 hb
          have hx := bcell k1
          go_wp2
          go_ret
          exact ⟨ret_bool (by rw [Hq.out]; rfl), b1⟩
        · have Hq := Lib.hid (Hnx.out (by first | rfl | trivial))
          go_wp2_with fail
          refine (Hc.out _).mono ?_
          rintro e w1 ⟨rfl, k1⟩
          have b1 := below_after k1 hb
          have hx := bcell k1
          go_wp2
          go_roundw
          case rel => exact ⟨k + 1, by go_num, by omega, Hq, b1⟩
          case measure => simp [intOf]; omega
      · obtain ⟨m, hm⟩ : ∃ m, m + 1 = k := ⟨k - 1, by omega⟩
        have hml : m < l.length := by omega
        obtain ⟨_, d1, zz⟩ := (hc m hml).below hg hb
        clear zz
        replace d1 : wr.cell? ⟨g, o + m, none⟩ = some (.string l[m]) := by
          have h2 : wr.cell? ⟨g, o + m * 1 + 0, none⟩ = some (.string l[m]) := d1
          rwa [Nat.mul_one] at h2
        have hk1 : 0 < (k : Int) := by omega
        have hkm : (k : Int) - 1 = (m : Int) := by omega
        have hmn : (m : Int) < (n : Int) := by omega
        have Hne : Hid (keyB l[k] = false → pB (Rising l) = false) := Lib.hid fun h => pB_false fun hr => by
          have := (hr k hkl hkl).1
          rw [h] at this
          cases this
        have Hne2 : Hid (ltB l[m] l[k] = false → pB (Rising l) = false) := Lib.hid fun h => pB_false fun hr => by
          have := (hr k hkl hkl).2 m hm
          rw [h] at this
          cases this
        have Hnx : Hid (keyB l[k] = true → ltB l[m] l[k] = true → ∀ j, j < k + 1 → RisAt l j) := Lib.hid fun h h2 j hj hjl => by
          by_cases e : j = k
          · subst e
            refine ⟨h, fun m' hm' => ?_⟩
            obtain rfl : m' = m := by omega
            exact h2
          · exact Hall.out j (by omega) hjl
        have hle : Op.bytesLess l[m].toList l[k].toList = ltB l[m] l[k] := rfl
        obtain ⟨x, es⟩ : ∃ x, l[k] = x := ⟨_, rfl⟩
        obtain ⟨y, et⟩ : ∃ y, l[m] = y := ⟨_, rfl⟩
        rw [es] at d0 Hc Hne Hnx Hne2 hle
        rw [et] at d1 Hnx Hne2 hle
        clear hc es et hkl hk0 hml hm
        generalize keyB x = b at *
        cases b
        · have Hq := Lib.hid (Hne.out (by first | rfl | trivial))
          clear hle Hnx Hne Hne2
          go_wp2_with fail
          refine (Hc.out _).mono ?_
          rintro e w1 ⟨rfl, k1⟩
          have b1 := below_after k1 hb
          have hx := bcell k1
          go_wp2
          go_ret
          exact ⟨ret_bool (by rw [Hq.out]; rfl), b1⟩
        · generalize ltB y x = b2 at *
          cases b2
          · have Hq := Lib.hid (Hne2.out (by first | rfl | trivial))
            clear Hnx Hne Hne2
            go_wp2_with fail
            refine (Hc.out _).mono ?_
            rintro e w1 ⟨rfl, k1⟩
            have b1 := below_after k1 hb
            have hx := bcell k1
            go_wp2
            go_ret
            exact ⟨ret_bool (by rw [Hq.out]; rfl), b1⟩
          · have Hq := Lib.hid (Hnx.out (by first | rfl | trivial) (by first | rfl | trivial))
            clear Hnx Hne Hne2
            go_wp2_with fail
            refine (Hc.out _).mono ?_
            rintro e w1 ⟨rfl, k1⟩
            have b1 := below_after k1 hb
            have hx := bcell k1
            go_wp2
            go_roundw
            case rel => exact ⟨k + 1, by go_num, by omega, Hq, b1⟩
            case measure => simp [intOf]; omega
    · have hlt2 : (n : Int) ≤ (k : Int) := by omega
      obtain rfl : k = n := by omega
      have Hq : Hid (pB (Rising l) = true) := Lib.hid (pB_true fun j hj => Hall.out j (by have := Hn.out; omega))
      by_cases h8 : k ≤ 8
      · have h9 : (k : Int) ≤ 8 := by omega
        go_wp2
        go_ret
        exact ⟨ret_bool (by rw [Hq.out]; simp; omega), hb⟩
      · have h9 : (8 : Int) < (k : Int) := by omega
        go_wp2
        go_ret
        exact ⟨ret_bool (by rw [Hq.out]; simp; omega), hb⟩

end Go.Proofs.Ytogdbjalgledpaa
