/- Plain lemmas and contracts that all proofs of this seat lean on: bundle Goodr. -/
import Derived.Test.YtpiheobpobclgaaGreatDoorRowd
import Derived.Test.YtpiheobpobclgaaGreatDoorKit
import Derived.IntWalk
import Derived.Deep.DeepCutAuto
/- Lists of strings: the older contracts in the words of XRow. -/
namespace Go.Proofs.YtpiheobpobclgaaGreatDoor
open Go.RowKit

theorem Rd.strRow {w : World} {v : Value} {l : List ByteArray} (h : Rd Cod.str w v l) : StrRow w v l := by
  obtain ⟨p, cap, rfl, _, _, r⟩ := h.form
  refine ⟨p, cap, rfl, fun hl => ?_⟩
  obtain ⟨g, o, rfl, hg, hc⟩ := r hl
  refine ⟨g, o, rfl, hg, fun j hj => ?_⟩
  obtain ⟨f, h1, _⟩ := hc j hj
  rw [show o + j * Cod.str.size = o + j from by rw [show Cod.str.size = 1 from rfl, Nat.mul_one]] at h1
  exact h1

theorem Rd.strLe {w : World} {v : Value} {l : List ByteArray} (h : Rd Cod.str w v l) : l.length ≤ maxLen ∧ ∀ k (h : k < l.length), l[k].size ≤ maxLen := by
  obtain ⟨p, cap, rfl, h1, h2, r⟩ := h.form
  refine ⟨Nat.le_trans h1 h2, fun k hk => ?_⟩
  obtain ⟨g, o, rfl, hg, hc⟩ := r (by omega)
  obtain ⟨f, _, h2, _⟩ := hc k hk
  exact h2

theorem sumSize_sumC (l : List ByteArray) : sumSize l = sumC (fun s => s.size) l := by
  induction l with
  | nil => rfl
  | cons a l ih => rw [sumSize, ih]; simp [sumC]

/-- What is owned flat, owned as data. -/
theorem own_strs {w : World} {base : Nat} {e : TypeId} {v : Value} {l : List ByteArray} (hz : ∀ k (h : k < l.length), l[k].size ≤ maxLen) (h : w.ownsRow base e 1 v l.length (l.map Value.string)) : Own Cod.str w base v l := by
  have hc : PartC Cod.str w base e v l.length l (l.map Value.string) := by
    have hfl : (List.replicate l.length ([] : List Nat)).flatten = [] := List.flatten_eq_nil_iff.2 fun x hx => List.eq_of_mem_replicate hx
    refine ⟨List.replicate l.length [], h, Nat.le_refl _, by simp, fun k hk f hf => ?_, ?_, ?_, ?_⟩
    · have : f = [] := List.eq_of_mem_replicate (List.mem_of_getElem? hf)
      subst this
      refine ⟨?_, hz k hk, rfl⟩
      show (l.map Value.string)[k * 1 + 0]? = _
      rw [Nat.mul_one, Nat.add_zero, List.getElem?_map, List.getElem?_eq_getElem hk]
      rfl
    · rw [hfl]; exact Mine.nil _ _
    · rw [hfl]; exact fun b hb => by cases hb
    · rw [hfl]; exact fun b _ hb => by cases hb
  exact hc.own rfl

theorem eqStringSR_any (v1 v2 : Value) (l : List ByteArray) (w : World) (h1 : Rd Cod.str w v1 l) (h2 : Rd Cod.str w v2 l) (hl : l.length ≤ 1048576) :
    Calls Tryz.prog 21 #[v1, v2] w fun e w' => e = .returned (.bool true) ∧ Below w.heap.size w w' :=
  eqStringS_same v1 v2 l (by omega) w h1.strRow h2.strRow

end Go.Proofs.YtpiheobpobclgaaGreatDoor


/- isStored, l3Write, areRising. -/
namespace Go.Proofs.YtpiheobpobclgaaGreatDoor
open Go.RowKit

/-- Whether a value may be stored. -/
def storedB (val : ByteArray) (gone : Bool) : Bool := valB val && (!gone || decide (val.size = 0))

/-- impl.isStored -/
theorem isStored_any (val : ByteArray) (gone : Bool) (hs : val.size ≤ maxLen) (w : World) : Calls Tryz.prog 56 #[.string val, .bool gone] w fun e w' => e = .returned (.bool (storedB val gone)) ∧ w = w' := by
  have Hc := Lib.hid (goodVal_any val hs)
  unfold storedB
  generalize valB val = q at *
  by_cases h0 : val.size = 0
  · have hv := nilOf h0
    subst hv
    cases q <;> cases gone
    all_goals
      go_enter Tryz.func56, Tryz.ntmps56
      go_wp2_with (go_at_call 69; refine (Hc.out _).mono ?_; rintro e w1 ⟨rfl, rfl⟩)
      go_ret
      exact ⟨rfl, rfl⟩
  · have hie := someOf h0
    have hd : decide (val.size = 0) = false := by simp [h0]
    rw [hd]
    cases q <;> cases gone
    all_goals
      go_enter Tryz.func56, Tryz.ntmps56
      go_wp2_with (go_at_call 69; refine (Hc.out _).mono ?_; rintro e w1 ⟨rfl, rfl⟩)
      go_ret
      exact ⟨ret_bool (by first | rfl | exact hie | (simp; exact fun h => by rw [h] at hie; cases hie)), rfl⟩

/-- spec.l3Write -/
theorem l3Write_any (key val : ByteArray) (gone : Bool) (hk : key.size ≤ maxLen) (hs : val.size ≤ maxLen) (w : World) : Calls Tryz.prog 45 #[.string key, .string val, .bool gone] w fun e w' => e = .returned (.bool (keyB key && storedB val gone)) ∧ Below w.heap.size w w' := by
  have Hc := Lib.hid (l3Key_any key hk)
  have Hd := Lib.hid (l3Val_any val hs)
  unfold storedB
  generalize keyB key = p at *
  generalize valB val = q at *
  by_cases h0 : val.size = 0
  · have hv := nilOf h0
    subst hv
    cases p
    · go_enter Tryz.func45, Tryz.ntmps45
      go_wp2_with (go_at_call 44; refine (Hc.out _).mono ?_; rintro e w1 ⟨rfl, k1⟩)
      go_ret
      exact ⟨rfl, k1⟩
    cases q <;> cases gone
    all_goals
      go_enter Tryz.func45, Tryz.ntmps45
      go_wp2_with fail
      refine (Hc.out _).mono ?_
      rintro e w1 ⟨rfl, k1⟩
      go_wp2_with (go_at_call 59; refine (Hd.out _).mono ?_; rintro e w2 ⟨rfl, k2⟩)
      go_ret
      exact ⟨rfl, below_after k2 k1⟩
  · have hie := someOf h0
    have hd : decide (val.size = 0) = false := by simp [h0]
    rw [hd]
    cases p
    · go_enter Tryz.func45, Tryz.ntmps45
      go_wp2_with (go_at_call 44; refine (Hc.out _).mono ?_; rintro e w1 ⟨rfl, k1⟩)
      go_ret
      exact ⟨rfl, k1⟩
    cases q <;> cases gone
    all_goals
      go_enter Tryz.func45, Tryz.ntmps45
      go_wp2_with fail
      refine (Hc.out _).mono ?_
      rintro e w1 ⟨rfl, k1⟩
      go_wp2_with (go_at_call 59; refine (Hd.out _).mono ?_; rintro e w2 ⟨rfl, k2⟩)
      go_ret
      exact ⟨ret_bool (by first | rfl | exact hie | (simp; exact fun h => by rw [h] at hie; cases hie)), below_after k2 k1⟩

/-- Key k is good and behind the one ahead of it. -/
def RisAt (l : List ByteArray) (k : Nat) : Prop := ∀ h : k < l.length, keyB l[k] = true ∧ ∀ m (hm : m + 1 = k), ltB (l[m]'(by omega)) l[k] = true
def Rising (l : List ByteArray) : Prop := ∀ k, k < l.length → RisAt l k

set_option maxRecDepth 100000 in
set_option maxHeartbeats 800000 in
/-- impl.areRising -/
theorem areRising_any (v : Value) (l : List ByteArray) (hl : l.length ≤ 1048576) (w : World) (h : Rd Cod.str w v l) :
    Calls Tryz.prog 39 #[v] w fun e w' => e = .returned (.bool (pB (Rising l))) ∧ Below w.heap.size w w' := by
  have hz := h.strLe.2
  have Hz := Lib.hid hz
  clear hz
  obtain ⟨p, c, rfl, _, _, r⟩ := h.form
  have R := Lib.hid r
  clear r h
  obtain ⟨n, hn⟩ : ∃ n : Nat, l.length = n := ⟨_, rfl⟩
  have Hn := Lib.hid hn
  rw [hn]
  have hnb : (n : Int) ≤ 1048576 := by omega
  clear hn hl
  go_enter Tryz.func39, Tryz.ntmps39
  go_wp2
  go_loopw [7] (fun i wr => ∃ k : Nat, i = .int .i64 (k : Int) ∧ k ≤ n ∧ Hid (∀ j, j < k → RisAt l j) ∧ Below w.heap.size w wr) (fun i _ => n - (intOf i).toNat)
  case atStart => exact ⟨0, rfl, Nat.zero_le _, Lib.hid (fun j h => by omega), Below.refl _ _⟩
  case round =>
    obtain ⟨k, rfl, hk, Hall, hb⟩ := hrel
    by_cases hlt : k < n
    · have hlt2 : (k : Int) < (n : Int) := by omega
      have hkl : k < l.length := by have := Hn.out; omega
      obtain ⟨g, o, rfl, hg, hc⟩ := R.out (by have := Hn.out; omega)
      obtain ⟨_, d0, z0, _⟩ := (hc k hkl).below hg hb
      replace d0 : wr.cell? ⟨g, o + k, none⟩ = some (.string l[k]) := by
        have h2 : wr.cell? ⟨g, o + k * 1 + 0, none⟩ = some (.string l[k]) := d0
        rwa [Nat.mul_one] at h2
      have Hc := Lib.hid (goodKey_any l[k] z0)
      clear z0
      by_cases hk0 : k = 0
      · have hk1 : (k : Int) ≤ 0 := by omega
        have Hne : Hid (keyB l[k] = false → pB (Rising l) = false) := Lib.hid fun h => pB_false fun hr => by
          have := (hr k hkl hkl).1
          rw [h] at this
          cases this
        have Hnx : Hid (keyB l[k] = true → ∀ j, j < k + 1 → RisAt l j) := Lib.hid fun h j hj hjl => by
          by_cases e : j = k
          · subst e
            exact ⟨h, fun m hm => by omega⟩
          · exact Hall.out j (by omega) hjl
        obtain ⟨x, es⟩ : ∃ x, l[k] = x := ⟨_, rfl⟩
        rw [es] at d0 Hc Hne Hnx
        clear hc es hkl hk0
        generalize keyB x = b at *
        cases b
        · have Hq := Lib.hid (Hne.out (by first | rfl | trivial))
          go_wp2_with fail
          refine (Hc.out _).mono ?_
          rintro e w1 ⟨rfl, rfl⟩
          go_wp2
          go_ret
          exact ⟨ret_bool (by rw [Hq.out]), hb⟩
        · have Hq := Lib.hid (Hnx.out (by first | rfl | trivial))
          go_wp2_with fail
          refine (Hc.out _).mono ?_
          rintro e w1 ⟨rfl, rfl⟩
          go_wp2
          go_roundw
          case rel => exact ⟨k + 1, by go_num, by omega, Hq, hb⟩
          case measure => simp [intOf]; omega
      · obtain ⟨m, hm⟩ : ∃ m, m + 1 = k := ⟨k - 1, by omega⟩
        have hml : m < l.length := by omega
        obtain ⟨_, d1, zz⟩ := (hc m hml).below hg hb
        clear zz
        replace d1 : wr.cell? ⟨g, o + m, none⟩ = some (.string l[m]) := by
          have h2 : wr.cell? ⟨g, o + m * 1 + 0, none⟩ = some (.string l[m]) := d1
          rwa [Nat.mul_one] at h2
        have hk1 : 0 < (k : Int) := by omega
        have hkm : (k : Int) - 1 = (m : Int) := by omega
        have hmn : (m : Int) < (n : Int) := by omega
        have Hne : Hid (keyB l[k] = false → pB (Rising l) = false) := Lib.hid fun h => pB_false fun hr => by
          have := (hr k hkl hkl).1
          rw [h] at this
          cases this
        have Hne2 : Hid (ltB l[m] l[k] = false → pB (Rising l) = false) := Lib.hid fun h => pB_false fun hr => by
          have := (hr k hkl hkl).2 m hm
          rw [h] at this
          cases this
        have Hnx : Hid (keyB l[k] = true → ltB l[m] l[k] = true → ∀ j, j < k + 1 → RisAt l j) := Lib.hid fun h h2 j hj hjl => by
          by_cases e : j = k
          · subst e
            refine ⟨h, fun m' hm' => ?_⟩
            obtain rfl : m' = m := by omega
            exact h2
          · exact Hall.out j (by omega) hjl
        have hle := leB_eq l[k] l[m]
        obtain ⟨x, es⟩ : ∃ x, l[k] = x := ⟨_, rfl⟩
        obtain ⟨y, et⟩ : ∃ y, l[m] = y := ⟨_, rfl⟩
        rw [es] at d0 Hc Hne Hnx Hne2 hle
        rw [et] at d1 Hnx Hne2 hle
        clear hc es et hkl hk0 hml hm
        generalize keyB x = b at *
        cases b
        · have Hq := Lib.hid (Hne.out (by first | rfl | trivial))
          clear hle Hnx Hne Hne2
          go_wp2_with fail
          refine (Hc.out _).mono ?_
          rintro e w1 ⟨rfl, rfl⟩
          go_wp2
          go_ret
          exact ⟨ret_bool (by rw [Hq.out]), hb⟩
        · generalize ltB y x = b2 at *
          cases b2
          · have Hq := Lib.hid (Hne2.out (by first | rfl | trivial))
            clear Hnx Hne Hne2
            go_wp2_with fail
            refine (Hc.out _).mono ?_
            rintro e w1 ⟨rfl, rfl⟩
            go_wp2
            go_ret
            exact ⟨ret_bool (by rw [Hq.out]), hb⟩
          · have Hq := Lib.hid (Hnx.out (by first | rfl | trivial) (by first | rfl | trivial))
            clear Hnx Hne Hne2
            go_wp2_with fail
            refine (Hc.out _).mono ?_
            rintro e w1 ⟨rfl, rfl⟩
            go_wp2
            go_roundw
            case rel => exact ⟨k + 1, by go_num, by omega, Hq, hb⟩
            case measure => simp [intOf]; omega
    · have hlt2 : (n : Int) ≤ (k : Int) := by omega
      obtain rfl : k = n := by omega
      have Hq : Hid (pB (Rising l) = true) := Lib.hid (pB_true fun j hj => Hall.out j (by have := Hn.out; omega))
      go_wp2
      go_ret
      exact ⟨ret_bool (by rw [Hq.out]), hb⟩

end Go.Proofs.YtpiheobpobclgaaGreatDoor


/- spec.l4Keys. -/
namespace Go.Proofs.YtpiheobpobclgaaGreatDoor
open Go.RowKit

set_option maxRecDepth 100000 in
set_option maxHeartbeats 800000 in
/-- spec.l4Keys -/
theorem l4Keys_any (v : Value) (l : List ByteArray) (hl : l.length ≤ 1048576) (w : World) (h : Rd Cod.str w v l) :
    Calls Tryz.prog 29 #[v] w fun e w' => e = .returned (.bool (pB (Rising l) && decide (l.length ≤ 8))) ∧ Below w.heap.size w w' := by
  have hz := h.strLe.2
  have Hz := Lib.hid hz
  clear hz
  obtain ⟨p, c, rfl, _, _, r⟩ := h.form
  have R := Lib.hid r
  clear r h
  obtain ⟨n, hn⟩ : ∃ n : Nat, l.length = n := ⟨_, rfl⟩
  have Hn := Lib.hid hn
  rw [hn]
  have hnb : (n : Int) ≤ 1048576 := by omega
  clear hn hl
  go_enter Tryz.func29, Tryz.ntmps29
  go_wp2
  go_loopw [7] (fun i wr => ∃ k : Nat, i = .int .i64 (k : Int) ∧ k ≤ n ∧ Hid (∀ j, j < k → RisAt l j) ∧ Below w.heap.size w wr) (fun i _ => n - (intOf i).toNat)
  case atStart => exact ⟨0, rfl, Nat.zero_le _, Lib.hid (fun j h => by omega), Below.refl _ _⟩
  case round =>
    obtain ⟨k, rfl, hk, Hall, hb⟩ := hrel
    by_cases hlt : k < n
    · have hlt2 : (k : Int) < (n : Int) := by omega
      have hkl : k < l.length := by have := Hn.out; omega
      obtain ⟨g, o, rfl, hg, hc⟩ := R.out (by have := Hn.out; omega)
      have hgl : g < wr.heap.size := by have := hb.size; omega
      obtain ⟨_, d0, z0, _⟩ := (hc k hkl).below hg hb
      replace d0 : wr.cell? ⟨g, o + k, none⟩ = some (.string l[k]) := by
        have h2 : wr.cell? ⟨g, o + k * 1 + 0, none⟩ = some (.string l[k]) := d0
        rwa [Nat.mul_one] at h2
      have Hc := Lib.hid (l3Key_any l[k] z0)
      clear z0
      by_cases hk0 : k = 0
      · have hk1 : (k : Int) ≤ 0 := by omega
        have Hne : Hid (keyB l[k] = false → pB (Rising l) = false) := Lib.hid fun h => pB_false fun hr => by
          have := (hr k hkl hkl).1
          rw [h] at this
          cases this
        have Hnx : Hid (keyB l[k] = true → ∀ j, j < k + 1 → RisAt l j) := Lib.hid fun h j hj hjl => by
          by_cases e : j = k
          · subst e
            exact ⟨h, fun m hm => by omega⟩
          · exact Hall.out j (by omega) hjl
        obtain ⟨x, es⟩ : ∃ x, l[k] = x := ⟨_, rfl⟩
        rw [es] at d0 Hc Hne Hnx
        clear hc es hkl hk0
        generalize keyB x = b at *
        cases b
        · have Hq := Lib.hid (Hne.out (by first | rfl | trivial))
          go_wp2_with fail
          refine (Hc.out _).mono ?_
          rintro e w1 ⟨rfl, k1⟩
          have b1 := below_after k1 hb
          have hx := bcell k1
          go_wp2
          go_ret
          exact ⟨ret_bool (by rw [Hq.out]; rfl), b1⟩
        · have Hq := Lib.hid (Hnx.out (by first | rfl | trivial))
          go_wp2_with fail
          refine (Hc.out _).mono ?_
          rintro e w1 ⟨rfl, k1⟩
          have b1 := below_after k1 hb
          have hx := bcell k1
          go_wp2
          go_roundw
          case rel => exact ⟨k + 1, by go_num, by omega, Hq, b1⟩
          case measure => simp [intOf]; omega
      · obtain ⟨m, hm⟩ : ∃ m, m + 1 = k := ⟨k - 1, by omega⟩
        have hml : m < l.length := by omega
        obtain ⟨_, d1, zz⟩ := (hc m hml).below hg hb
        clear zz
        replace d1 : wr.cell? ⟨g, o + m, none⟩ = some (.string l[m]) := by
          have h2 : wr.cell? ⟨g, o + m * 1 + 0, none⟩ = some (.string l[m]) := d1
          rwa [Nat.mul_one] at h2
        have hk1 : 0 < (k : Int) := by omega
        have hkm : (k : Int) - 1 = (m : Int) := by omega
        have hmn : (m : Int) < (n : Int) := by omega
        have Hne : Hid (keyB l[k] = false → pB (Rising l) = false) := Lib.hid fun h => pB_false fun hr => by
          have := (hr k hkl hkl).1
          rw [h] at this
          cases this
        have Hne2 : Hid (ltB l[m] l[k] = false → pB (Rising l) = false) := Lib.hid fun h => pB_false fun hr => by
          have := (hr k hkl hkl).2 m hm
          rw [h] at this
          cases this
        have Hnx : Hid (keyB l[k] = true → ltB l[m] l[k] = true → ∀ j, j < k + 1 → RisAt l j) := Lib.hid fun h h2 j hj hjl => by
          by_cases e : j = k
          · subst e
            refine ⟨h, fun m' hm' => ?_⟩
            obtain rfl : m' = m := by omega
            exact h2
          · exact Hall.out j (by omega) hjl
        have hle : Op.bytesLess l[m].toList l[k].toList = ltB l[m] l[k] := rfl
        obtain ⟨x, es⟩ : ∃ x, l[k] = x := ⟨_, rfl⟩
        obtain ⟨y, et⟩ : ∃ y, l[m] = y := ⟨_, rfl⟩
        rw [es] at d0 Hc Hne Hnx Hne2 hle
        rw [et] at d1 Hnx Hne2 hle
        clear hc es et hkl hk0 hml hm
        generalize keyB x = b at *
        cases b
        · have Hq := Lib.hid (Hne.out (by first | rfl | trivial))
          clear hle Hnx Hne Hne2
          go_wp2_with fail
          refine (Hc.out _).mono ?_
          rintro e w1 ⟨rfl, k1⟩
          have b1 := below_after k1 hb
          have hx := bcell k1
          go_wp2
          go_ret
          exact ⟨ret_bool (by rw [Hq.out]; rfl), b1⟩
        · generalize ltB y x = b2 at *
          cases b2
          · have Hq := Lib.hid (Hne2.out (by first | rfl | trivial))
            clear Hnx Hne Hne2
            go_wp2_with fail
            refine (Hc.out _).mono ?_
            rintro e w1 ⟨rfl, k1⟩
            have b1 := below_after k1 hb
            have hx := bcell k1
            go_wp2
            go_ret
            exact ⟨ret_bool (by rw [Hq.out]; rfl), b1⟩
          · have Hq := Lib.hid (Hnx.out (by first | rfl | trivial) (by first | rfl | trivial))
            clear Hnx Hne Hne2
            go_wp2_with fail
            refine (Hc.out _).mono ?_
            rintro e w1 ⟨rfl, k1⟩
            have b1 := below_after k1 hb
            have hx := bcell k1
            go_wp2
            go_roundw
            case rel => exact ⟨k + 1, by go_num, by omega, Hq, b1⟩
            case measure => simp [intOf]; omega
    · have hlt2 : (n : Int) ≤ (k : Int) := by omega
      obtain rfl : k = n := by omega
      have Hq : Hid (pB (Rising l) = true) := Lib.hid (pB_true fun j hj => Hall.out j (by have := Hn.out; omega))
      by_cases h8 : k ≤ 8
      · have h9 : (k : Int) ≤ 8 := by omega
        go_wp2
        go_ret
        exact ⟨ret_bool (by rw [Hq.out]; simp; omega), hb⟩
      · have h9 : (8 : Int) < (k : Int) := by omega
        go_wp2
        go_ret
        exact ⟨ret_bool (by rw [Hq.out]; simp; omega), hb⟩

end Go.Proofs.YtpiheobpobclgaaGreatDoor


/- GoodWrites, the parts: the closure, writeKeys. -/
namespace Go.Proofs.YtpiheobpobclgaaGreatDoor
open Go.RowKit

/-- Whether a write's value may not be stored. -/
def badStored (x : WriteD) : Bool := !storedB x.Val x.Gone

/-- the closure of impl.GoodWrites -/
theorem gwCf_closure (x : WriteD) (zVal : x.Val.size ≤ maxLen) (w : World) : Calls Tryz.prog 55 #[.agg #[.string x.Key, .string x.Val, .bool x.Gone]] w fun e w' => e = .returned (.bool (badStored x)) ∧ Below w.heap.size w w' := by
  have Hc := Lib.hid (isStored_any x.Val x.Gone zVal)
  unfold badStored
  generalize storedB x.Val x.Gone = q at *
  go_enter Tryz.func55, Tryz.ntmps55
  go_wp2_with (go_at_call 56; refine (Hc.out _).mono ?_; rintro e w1 ⟨rfl, rfl⟩)
  go_ret
  exact ⟨rfl, by (repeat (first | exact Below.refl _ _ | exact below_new _ _ | refine below_setCell ?_ (by first | (simp; done) | (simp; omega) | omega) | refine below_alloc _ ?_ | refine below_drewN ?_ _ | refine below_after (by assumption) ?_ | assumption))⟩

set_option maxRecDepth 100000 in
set_option maxHeartbeats 800000 in
/-- slices.IndexFunc at the closure -/
theorem gwCf_idx (v : Value) (l : List WriteD) (hl : l.length ≤ 1048576) (w : World) (h : Rd Cod.write w v l) :
    Calls Tryz.prog 68 #[v, .func (.func 55) #[] #[]] w fun e w' => (∃ r : Int, e = .returned (.int .i64 r) ∧ ((0 ≤ r ∧ r ≤ 1048576 ∧ l.any badStored = true) ∨ (r = -1 ∧ l.any badStored = false))) ∧ Below w.heap.size w w' := by
  obtain ⟨p, c, rfl, _, _, r⟩ := h.form
  have R := Lib.hid r
  clear r h
  obtain ⟨n, hn⟩ : ∃ n : Nat, l.length = n := ⟨_, rfl⟩
  have Hn := Lib.hid hn
  rw [hn]
  have hnb : (n : Int) ≤ 1048576 := by omega
  clear hn hl
  go_enter Tryz.func68, Tryz.ntmps68
  go_wp2
  go_loopw [5, 8] (fun _ i wr => ∃ k : Nat, i = .int .i64 (k : Int) ∧ k ≤ n ∧ Hid (∀ j (h : j < l.length), j < k → badStored l[j] = false) ∧ Below w.heap.size w wr) (fun _ i _ => n - (intOf i).toNat)
  case atStart => exact ⟨0, rfl, Nat.zero_le _, Lib.hid fun j _ h => by omega, Below.refl _ _⟩
  case round =>
    obtain ⟨k, rfl, hk, Hall, hb⟩ := hrel
    by_cases hlt : k < n
    · have hlt2 : (k : Int) < (n : Int) := by omega
      have hkl : k < l.length := by have := Hn.out; omega
      obtain ⟨g, o, rfl, hg, hc⟩ := R.out (by have := Hn.out; omega)
      have at0 := (hc k hkl).below hg hb
      have Hb : Hid (badStored l[k] = true → l.any badStored = true) := Lib.hid fun h => List.any_eq_true.2 ⟨l[k], List.getElem_mem hkl, h⟩
      have Hnx : Hid (badStored l[k] = false → ∀ j (h : j < l.length), j < k + 1 → badStored l[j] = false) := Lib.hid fun h j hj hjk => by
        by_cases e : j = k
        · subst e; exact h
        · exact Hall.out j hj (by omega)
      obtain ⟨x, es⟩ : ∃ x, l[k] = x := ⟨_, rfl⟩
      rw [es] at at0 Hb Hnx
      clear hc es hkl
      obtain ⟨d0, d1, d2, zKey, zVal⟩ := at_write at0
      rw [show o + k * Cod.write.size = o + k * 3 from rfl] at *
      clear at0
      have Hc := Lib.hid (gwCf_closure x zVal)
      generalize badStored x = b at *
      cases b
      · go_wp2_with fail
        refine (Hc.out _).mono ?_
        rintro e w1 ⟨rfl, k1⟩
        go_wp2
        go_roundw
        case rel => exact ⟨k + 1, by go_num, by omega, Lib.hid (Hnx.out (by first | rfl | trivial)), below_after k1 hb⟩
        case measure => simp [intOf]; omega
      · have Hq := Lib.hid (Hb.out (by first | rfl | trivial))
        go_wp2_with fail
        refine (Hc.out _).mono ?_
        rintro e w1 ⟨rfl, k1⟩
        go_wp2
        go_ret
        exact ⟨⟨_, rfl, Or.inl ⟨by omega, by omega, Hq.out⟩⟩, below_after k1 hb⟩
    · have hlt2 : (n : Int) ≤ (k : Int) := by omega
      obtain rfl : k = n := by omega
      have Hq : Hid (l.any badStored = false) := Lib.hid (List.any_eq_false.2 fun x hx => by
        obtain ⟨j, hj, rfl⟩ := List.getElem_of_mem hx
        rw [Hall.out j hj (by have := Hn.out; omega)]
        simp)
      go_wp2
      go_ret
      exact ⟨⟨_, rfl, Or.inr ⟨rfl, Hq.out⟩⟩, hb⟩

/-- slices.ContainsFunc at the closure -/
theorem gwCf_any (v : Value) (l : List WriteD) (hl : l.length ≤ 1048576) (w : World) (h : Rd Cod.write w v l) :
    Calls Tryz.prog 54 #[v, .func (.func 55) #[] #[]] w fun e w' => e = .returned (.bool (l.any badStored)) ∧ Below w.heap.size w w' := by
  have Hc := Lib.hid (gwCf_idx v l hl w h)
  generalize l.any badStored = b at *
  go_enter Tryz.func54, Tryz.ntmps54
  go_wp2_with fail
  refine Hc.out.mono ?_
  rintro e w1 ⟨⟨r, rfl, hr⟩, k1⟩
  rcases hr with ⟨h0, h1, ha⟩ | ⟨rfl, ha⟩
  · have Ha := Lib.hid ha
    clear ha
    go_wp2
    go_ret
    exact ⟨ret_bool (by first | (rw [Ha.out]; done) | (rw [Ha.out]; simp; omega)), k1⟩
  · have Ha := Lib.hid ha
    clear ha
    go_wp2
    go_ret
    exact ⟨ret_bool (by first | (rw [Ha.out]; done) | (rw [Ha.out]; simp)), k1⟩

set_option maxRecDepth 100000 in
set_option maxHeartbeats 800000 in
/-- impl.writeKeys -/
theorem writeKeys_any (v : Value) (l : List WriteD) (hl : l.length ≤ 1048576) (w : World) (h : Rd Cod.write w v l) :
    Calls Tryz.prog 53 #[v] w fun e w' => ∃ v', e = .returned v' ∧ Own Cod.str w' w.heap.size v' (l.map fun x => x.Key) ∧ Below w.heap.size w w' := by
  obtain ⟨i0, hi, hz0, hz1, hz2⟩ := info_parts Tryz_info_str
  obtain ⟨p, c, rfl, _, _, r⟩ := h.form
  have R := Lib.hid r
  clear r h
  obtain ⟨n, hn⟩ : ∃ n : Nat, l.length = n := ⟨_, rfl⟩
  have Hn := Lib.hid hn
  rw [hn]
  have hnb : (n : Int) ≤ 1048576 := by omega
  clear hn hl
  go_enter Tryz.func53, Tryz.ntmps53
  go_wp2
  go_loopw [3, 9] (fun a i wr => ∃ k : Nat, i = .int .i64 (k : Int) ∧ k ≤ n ∧ Hid (Part Cod.str wr w.heap.size 9 a k ((l.map fun x => x.Key).take k)) ∧ Below w.heap.size w wr) (fun _ i _ => n - (intOf i).toNat)
  case atStart => exact ⟨0, rfl, Nat.zero_le _, Lib.hid ⟨_, part_start (World.ownsRow_made _ _ _ (Nat.le_refl _) (by simp) rfl)⟩, below_new _ _⟩
  case round =>
    obtain ⟨k, rfl, hk, Hp, hb⟩ := hrel
    have hbs := hb.size
    by_cases hlt : k < n
    · have hlt2 : (k : Int) < (n : Int) := by omega
      have hkl : k < l.length := by have := Hn.out; omega
      have Hkl : Hid (((l.map fun x => x.Key).take k).length = k) := Lib.hid (by rw [List.length_take, List.length_map]; omega)
      obtain ⟨g, o, rfl, hg, hc⟩ := R.out (by have := Hn.out; omega)
      have at0 := (hc k hkl).below hg hb
      have Ht : Hid ((l.map fun x => x.Key).take (k + 1) = (l.map fun x => x.Key).take k ++ [l[k].Key]) := Lib.hid (by rw [List.take_succ_eq_append_getElem (by rw [List.length_map]; exact hkl), List.getElem_map])
      obtain ⟨x, es⟩ : ∃ x, l[k] = x := ⟨_, rfl⟩
      rw [es] at at0 Ht
      clear hc es hkl
      obtain ⟨d0, d1, d2, z0, z1⟩ := at_write at0
      rw [show o + k * Cod.write.size = o + k * 3 from rfl] at *
      clear at0 z1
      have Hroom : Hid ((k + 1) * 16 ≤ room) := Lib.hid (by unfold room; omega)
      obtain ⟨cells, Pc⟩ := Hp.out
      have Pc := Lib.hid Pc
      clear Hp
      go_wp2_with (at_builtin; refine wpList_append_part (c := Cod.str) (wr.alloc (.cells #[.string x.Key, .string x.Val, .bool x.Gone] 45)) rfl _ _ 22 (by rfl) w.heap.size 9 9 i0 (.string ⟨#[]⟩) 16 Tryz.underlying22 hi hz0 hz1 hz2 rfl (by decide) (by decide) wr _ k _ cells (by rfl) Pc.out Hkl.out (below_new _ _) x.Key [] [.string x.Key] rfl ⟨rfl, z0, rfl⟩ (Mine.nil _ _) (wr.heap.size + 1) (by simp) (by rfl) (by simp [Value.oneCell']) Hroom.out hbs ?_)
      intro g' cap' w3 hp3 hb3
      have Hp3 := Lib.hid hp3
      have hb4 : Below w.heap.size w w3 := (below_alloc _ hb).trans hb3
      clear hp3 hb3 Pc
      go_wp2
      go_roundw
      case rel => exact ⟨k + 1, by go_num, by omega, Lib.hid (by rw [Ht.out]; exact Hp3.out), hb4⟩
      case measure => simp [intOf]; omega
    · have hlt2 : (n : Int) ≤ (k : Int) := by omega
      obtain rfl : k = n := by omega
      go_wp2
      go_ret
      refine ⟨_, rfl, ?_, hb⟩
      have h1 := Hp.out
      rw [List.take_of_length_le (by rw [List.length_map]; have := Hn.out; omega)] at h1
      exact h1.own (by rw [List.length_map]; exact Hn.out)

end Go.Proofs.YtpiheobpobclgaaGreatDoor


/- GoodWrites, both. -/
namespace Go.Proofs.YtpiheobpobclgaaGreatDoor
open Go.RowKit

/-- Whether the writes are good. -/
noncomputable def goodWB (l : List WriteD) : Bool := decide (l.length ≤ 24) && (pB (Rising (l.map fun x => x.Key)) && !l.any badStored)

/-- Write k is good and behind the one ahead of it. -/
def WAt (l : List WriteD) (k : Nat) : Prop := ∀ h : k < l.length, (keyB l[k].Key && storedB l[k].Val l[k].Gone) = true ∧ ∀ m (hm : m + 1 = k), ltB (l[m]'(by omega)).Key l[k].Key = true

theorem goodWB_true {l : List WriteD} (h0 : l.length ≤ 24) (h : ∀ k, k < l.length → WAt l k) : goodWB l = true := by
  unfold goodWB
  rw [show decide (l.length ≤ 24) = true from by simpa using h0, pB_true (p := Rising (l.map fun x => x.Key)) ?_, show l.any badStored = false from ?_]
  · rfl
  · rw [List.any_eq_false]
    intro x hx
    obtain ⟨j, hj, rfl⟩ := List.getElem_of_mem hx
    have := (h j hj hj).1
    rw [Bool.and_eq_true] at this
    unfold badStored
    rw [this.2]
    simp
  · intro k hk hk2
    have hkl : k < l.length := by simpa using hk
    have h1 := h k hkl hkl
    rw [Bool.and_eq_true] at h1
    refine ⟨by simpa using h1.1.1, fun m hm => ?_⟩
    simpa using h1.2 m hm

theorem goodWB_at {l : List WriteD} (h : goodWB l = true) : l.length ≤ 24 ∧ ∀ k, k < l.length → WAt l k := by
  unfold goodWB at h
  simp only [Bool.and_eq_true, decide_eq_true_eq, Bool.not_eq_true'] at h
  refine ⟨h.1, fun k hk hk2 => ?_⟩
  have h1 := pB_iff.1 h.2.1 k (by simpa using hk) (by simpa using hk)
  have h2 := List.any_eq_false.1 h.2.2 l[k] (List.getElem_mem hk)
  unfold badStored at h2
  simp only [Bool.not_eq_true', Bool.not_eq_false] at h2
  refine ⟨by rw [Bool.and_eq_true]; exact ⟨by simpa using h1.1, by simpa using h2⟩, fun m hm => ?_⟩
  simpa using h1.2 m hm

theorem goodWB_long {l : List WriteD} (h : ¬ l.length ≤ 24) : goodWB l = false := by
  unfold goodWB
  rw [show decide (l.length ≤ 24) = false from by simpa using h]
  rfl
theorem goodWB_bad {l : List WriteD} {k : Nat} (hk : k < l.length) (h : ¬ WAt l k) : goodWB l = false := by
  cases hg : goodWB l
  · rfl
  · exact absurd ((goodWB_at hg).2 k hk) h

set_option maxRecDepth 100000 in
set_option maxHeartbeats 800000 in
/-- impl.GoodWrites -/
theorem goodWrites_any (v : Value) (l : List WriteD) (hl : l.length ≤ 1048576) (w : World) (h : Rd Cod.write w v l) :
    Calls Tryz.prog 40 #[v] w fun e w' => e = .returned (.bool (goodWB l)) ∧ Below w.heap.size w w' := by
  have Hk := Lib.hid (writeKeys_any v l hl w h)
  have Hr := Lib.hid (fun (u : Value) (W : World) (r : Rd Cod.str W u (l.map fun x => x.Key)) => areRising_any u _ (by rw [List.length_map]; exact hl) W r)
  have Hc := Lib.hid (fun (W : World) (r : Rd Cod.write W v l) => gwCf_any v l hl W r)
  have Hh := Lib.hid h
  obtain ⟨p, c, rfl, _, _, _⟩ := h.form
  clear h
  unfold goodWB
  generalize pB (Rising (l.map fun x => x.Key)) = q1 at *
  generalize l.any badStored = q2 at *
  generalize l.map (fun x => x.Key) = ks at *
  obtain ⟨n, hn⟩ : ∃ n : Nat, l.length = n := ⟨_, rfl⟩
  rw [hn] at Hk Hc Hh hl ⊢
  have hnb : (n : Int) ≤ 1048576 := by omega
  clear hn hl
  by_cases h24 : n ≤ 24
  rotate_left
  · have h25 : ¬ (n : Int) ≤ 24 := by omega
    rw [show decide (n ≤ 24) = false from by simpa using h24]
    go_enter Tryz.func40, Tryz.ntmps40
    go_wp2
    go_ret
    exact ⟨ret_bool (by first | rfl | (simp; omega)), Below.refl _ _⟩
  · have h25 : (n : Int) ≤ 24 := by omega
    rw [show decide (n ≤ 24) = true from by simpa using h24]
    clear h24
    cases q1
    · go_enter Tryz.func40, Tryz.ntmps40
      go_wp2_with fail
      refine Hk.out.mono ?_
      rintro e w1 ⟨u, rfl, o1, k1⟩
      have r1 := o1.rd
      clear o1
      go_wp2_with fail
      refine (Hr.out _ _ r1).mono ?_
      rintro e w2 ⟨rfl, k2⟩
      go_wp2
      go_ret
      exact ⟨ret_bool rfl, below_after k2 k1⟩
    · go_enter Tryz.func40, Tryz.ntmps40
      go_wp2_with fail
      refine Hk.out.mono ?_
      rintro e w1 ⟨u, rfl, o1, k1⟩
      have r1 := o1.rd
      clear o1
      go_wp2_with fail
      refine (Hr.out _ _ r1).mono ?_
      rintro e w2 ⟨rfl, k2⟩
      have b2 := below_after k2 k1
      clear k1 k2 r1
      go_wp2_with fail
      refine (Hc.out _ (Hh.out.below b2)).mono ?_
      rintro e w3 ⟨rfl, k3⟩
      go_wp2
      go_ret
      exact ⟨ret_bool (by cases q2 <;> rfl), below_after k3 b2⟩

set_option maxRecDepth 100000 in
set_option maxHeartbeats 1600000 in
/-- spec.l3Writes -/
theorem l3Writes_any (v : Value) (l : List WriteD) (hl : l.length ≤ 1048576) (w : World) (h : Rd Cod.write w v l) :
    Calls Tryz.prog 30 #[v] w fun e w' => e = .returned (.bool (goodWB l)) ∧ Below w.heap.size w w' := by
  obtain ⟨p, c, rfl, _, _, r⟩ := h.form
  have R := Lib.hid r
  clear r h
  obtain ⟨n, hn⟩ : ∃ n : Nat, l.length = n := ⟨_, rfl⟩
  have Hn := Lib.hid hn
  rw [hn]
  have hnb : (n : Int) ≤ 1048576 := by omega
  clear hn hl
  go_enter Tryz.func30, Tryz.ntmps30
  go_wp2
  go_loopw [7] (fun i wr => ∃ k : Nat, i = .int .i64 (k : Int) ∧ k ≤ n ∧ Hid (∀ j, j < k → WAt l j) ∧ Below w.heap.size w wr) (fun i _ => n - (intOf i).toNat)
  case atStart => exact ⟨0, rfl, Nat.zero_le _, Lib.hid (fun j h => by omega), Below.refl _ _⟩
  case round =>
    obtain ⟨k, rfl, hk, Hall, hb⟩ := hrel
    by_cases hlt : k < n
    · have hlt2 : (k : Int) < (n : Int) := by omega
      have hkl : k < l.length := by have := Hn.out; omega
      obtain ⟨g, o, rfl, hg, hc⟩ := R.out (by have := Hn.out; omega)
      have at0 := (hc k hkl).below hg hb
      have hgl : g < wr.heap.size := by have := hb.size; omega
      by_cases hk0 : k = 0
      · have hd : decide (0 < k) = false := by simp; omega
        have Hne : Hid ((keyB l[k].Key && storedB l[k].Val l[k].Gone) = false → goodWB l = false) := Lib.hid fun h => goodWB_bad hkl fun hr => by
          rw [(hr hkl).1] at h
          cases h
        have Hnx : Hid ((keyB l[k].Key && storedB l[k].Val l[k].Gone) = true → ∀ j, j < k + 1 → WAt l j) := Lib.hid fun h j hj hjl => by
          by_cases e : j = k
          · subst e
            exact ⟨h, fun m hm => by omega⟩
          · exact Hall.out j (by omega) hjl
        obtain ⟨x, es⟩ : ∃ x, l[k] = x := ⟨_, rfl⟩
        rw [es] at at0 Hne Hnx
        obtain ⟨d0, d1, d2, z0, z1⟩ := at_write at0
        rw [show o + k * Cod.write.size = o + k * 3 from rfl] at *
        have Hc := Lib.hid (l3Write_any x.Key x.Val x.Gone z0 z1)
        clear hc es hkl hk0 at0 z0 z1
        generalize (keyB x.Key && storedB x.Val x.Gone) = b at *
        cases b
        · have Hq := Lib.hid (Hne.out (by first | rfl | trivial))
          go_wp2_with fail
          have hx2 := fun (u : World) (b o : Nat) (h : b < wr.heap.size + 1) => ext_cell (wr.alloc (.cells #[.string x.Key, .string x.Val, .bool x.Gone] 45)) u b o h
          refine wp_region_ext (by kernel_rfl) (by kernel_rfl) (wr.heap.size + 1) ?_
          repeat (any_goals (go_big_quiet_step ((go_at_call 45; exact calls_ext (by first | (simp; done) | omega | (simp; omega)) (Hc.out _)))))
          refine wpQuiet_nil ?_
          intro w2 hb2
          clear hx2
          go_wp2
          go_ret
          exact ⟨ret_bool (by rw [Hq.out]), (below_alloc _ hb).trans (hb2.mono (by have := hb.size; omega))⟩
        · have Hq := Lib.hid (Hnx.out (by first | rfl | trivial))
          go_wp2_with fail
          have hx2 := fun (u : World) (b o : Nat) (h : b < wr.heap.size + 1) => ext_cell (wr.alloc (.cells #[.string x.Key, .string x.Val, .bool x.Gone] 45)) u b o h
          refine wp_region_ext (by kernel_rfl) (by kernel_rfl) (wr.heap.size + 1) ?_
          repeat (any_goals (go_big_quiet_step ((go_at_call 45; exact calls_ext (by first | (simp; done) | omega | (simp; omega)) (Hc.out _)))))
          refine wpQuiet_nil ?_
          intro w2 hb2
          clear hx2
          go_wp2
          go_roundw
          case rel => exact ⟨k + 1, by go_num, by omega, Hq, (below_alloc _ hb).trans (hb2.mono (by have := hb.size; omega))⟩
          case measure => simp [intOf]; omega
      · obtain ⟨m, hm⟩ : ∃ m, m + 1 = k := ⟨k - 1, by omega⟩
        have hml : m < l.length := by omega
        have at1 := (hc m hml).below hg hb
        have Hne : Hid ((keyB l[k].Key && storedB l[k].Val l[k].Gone) = false → goodWB l = false) := Lib.hid fun h => goodWB_bad hkl fun hr => by
          rw [(hr hkl).1] at h
          cases h
        have Hne2 : Hid (ltB l[m].Key l[k].Key = false → goodWB l = false) := Lib.hid fun h => goodWB_bad hkl fun hr => by
          rw [(hr hkl).2 m hm] at h
          cases h
        have Hnx : Hid ((keyB l[k].Key && storedB l[k].Val l[k].Gone) = true → ltB l[m].Key l[k].Key = true → ∀ j, j < k + 1 → WAt l j) := Lib.hid fun h h2 j hj hjl => by
          by_cases e : j = k
          · subst e
            refine ⟨h, fun m' hm' => ?_⟩
            obtain rfl : m' = m := by omega
            exact h2
          · exact Hall.out j (by omega) hjl
        obtain ⟨x, es⟩ : ∃ x, l[k] = x := ⟨_, rfl⟩
        obtain ⟨y, et⟩ : ∃ y, l[m] = y := ⟨_, rfl⟩
        rw [es] at at0 Hne Hnx Hne2
        rw [et] at at1 Hnx Hne2
        obtain ⟨d0, d1, d2, z0, z1⟩ := at_write at0
        have c0 := (at_write at1).1
        rw [show o + k * Cod.write.size = o + k * 3 from rfl] at *
        rw [show o + m * Cod.write.size = o + m * 3 from rfl] at *
        have Hc := Lib.hid (l3Write_any x.Key x.Val x.Gone z0 z1)
        have hd : decide (0 < k) = true := by simp; omega
        have hkm : IntKind.i64.wrap ((k : Int) - 1) = (m : Int) := by rw [IntWalk.i64_in _ (by omega)]; omega
        have hmn : (m : Int) < (n : Int) := by omega
        have hm0 : (0 : Int) ≤ (m : Int) := by omega
        clear hc es et hkl hk0 at0 at1 z0 z1 hml hm
        generalize (keyB x.Key && storedB x.Val x.Gone) = b at *
        cases b
        · have Hq := Lib.hid (Hne.out (by first | rfl | trivial))
          go_wp2_with fail
          have hx2 := fun (u : World) (b o : Nat) (h : b < wr.heap.size + 1) => ext_cell (wr.alloc (.cells #[.string x.Key, .string x.Val, .bool x.Gone] 45)) u b o h
          refine wp_region_ext (by kernel_rfl) (by kernel_rfl) (wr.heap.size + 1) ?_
          repeat (any_goals (go_big_quiet_step ((go_at_call 45; exact calls_ext (by first | (simp; done) | omega | (simp; omega)) (Hc.out _)))))
          refine wpQuiet_nil ?_
          intro w2 hb2
          clear hx2 hkm
          go_wp2
          go_ret
          exact ⟨ret_bool (by rw [Hq.out]), (below_alloc _ hb).trans (hb2.mono (by have := hb.size; omega))⟩
        · have hlb : Op.bytesLess y.Key.toList x.Key.toList = ltB y.Key x.Key := rfl
          generalize ltB y.Key x.Key = b2 at *
          cases b2
          · have Hq := Lib.hid (Hne2.out (by first | rfl | trivial))
            go_wp2_with fail
            have hx2 := fun (u : World) (b o : Nat) (h : b < wr.heap.size + 1) => ext_cell (wr.alloc (.cells #[.string x.Key, .string x.Val, .bool x.Gone] 45)) u b o h
            refine wp_region_ext (by kernel_rfl) (by kernel_rfl) (wr.heap.size + 1) ?_
            repeat (any_goals (go_big_quiet_step ((go_at_call 45; exact calls_ext (by first | (simp; done) | omega | (simp; omega)) (Hc.out _)))))
            refine wpQuiet_nil ?_
            intro w2 hb2
            clear hx2 hkm
            go_wp2
            go_ret
            exact ⟨ret_bool (by rw [Hq.out]), (below_alloc _ hb).trans (hb2.mono (by have := hb.size; omega))⟩
          · have Hq := Lib.hid (Hnx.out (by first | rfl | trivial) (by first | rfl | trivial))
            go_wp2_with fail
            have hx2 := fun (u : World) (b o : Nat) (h : b < wr.heap.size + 1) => ext_cell (wr.alloc (.cells #[.string x.Key, .string x.Val, .bool x.Gone] 45)) u b o h
            refine wp_region_ext (by kernel_rfl) (by kernel_rfl) (wr.heap.size + 1) ?_
            repeat (any_goals (go_big_quiet_step ((go_at_call 45; exact calls_ext (by first | (simp; done) | omega | (simp; omega)) (Hc.out _)))))
            refine wpQuiet_nil ?_
            intro w2 hb2
            clear hx2 hkm
            go_wp2
            go_roundw
            case rel => exact ⟨k + 1, by go_num, by omega, Hq, (below_alloc _ hb).trans (hb2.mono (by have := hb.size; omega))⟩
            case measure => simp [intOf]; omega
    · have hlt2 : (n : Int) ≤ (k : Int) := by omega
      obtain rfl : k = n := by omega
      by_cases h24 : k ≤ 24
      · have h25 : (k : Int) ≤ 24 := by omega
        have Hq : Hid (goodWB l = true) := Lib.hid (goodWB_true (by have := Hn.out; omega) fun j hj => Hall.out j (by have := Hn.out; omega))
        go_wp2
        go_ret
        exact ⟨ret_bool (by rw [Hq.out]), hb⟩
      · have h25 : (24 : Int) < (k : Int) := by omega
        have Hq : Hid (goodWB l = false) := Lib.hid (goodWB_long (by have := Hn.out; omega))
        go_wp2
        go_ret
        exact ⟨ret_bool (by rw [Hq.out]; first | rfl | (simp; omega)), hb⟩

end Go.Proofs.YtpiheobpobclgaaGreatDoor


/- One cell: good or not, both. -/
namespace Go.Proofs.YtpiheobpobclgaaGreatDoor
open Go.RowKit

/-- impl.isTime -/
theorem isTime_any (n : Int) (w : World) : Calls Tryz.prog 37 #[.int .i64 n] w fun e w' => e = .returned (.bool (inB n 1 100000)) ∧ w = w' := by
  go_enter Tryz.func37, Tryz.ntmps37
  go_wp2_with (go_at_call 38; refine (within_any _ _ _ _).mono ?_; rintro e w1 ⟨rfl, rfl⟩)
  go_ret
  exact ⟨rfl, rfl⟩

/-- spec.l3Time -/
theorem l3Time_any (n : Int) (w : World) : Calls Tryz.prog 28 #[.int .i64 n] w fun e w' => e = .returned (.bool (inB n 1 100000)) ∧ w = w' := by
  go_enter Tryz.func28, Tryz.ntmps28
  go_wp2_with (go_at_call 27; refine (l1In_any _ _ _ _).mono ?_; rintro e w1 ⟨rfl, rfl⟩)
  go_ret
  exact ⟨rfl, rfl⟩

/-- Version j is good and behind the one ahead of it. -/
def VerAt (l : List VerD) (j : Nat) : Prop := ∀ h : j < l.length, inB l[j].Time 1 100000 = true ∧ storedB l[j].Val l[j].Gone = true ∧ ∀ m (hm : m + 1 = j), (l[m]'(by omega)).Time < l[j].Time
/-- Version j is behind the one ahead of it. -/
def OrdAt (l : List VerD) (j : Nat) : Prop := ∀ h : j < l.length, ∀ m (hm : m + 1 = j), (l[m]'(by omega)).Time < l[j].Time
def VerKAt (key : ByteArray) (l : List VerD) (j : Nat) : Prop := ∀ _ : j < l.length, VerAt l j ∧ keyB key = true
def GoodV (l : List VerD) : Prop := inB l.length 1 16 = true ∧ ∀ j, j < l.length → VerAt l j

end Go.Proofs.YtpiheobpobclgaaGreatDoor


/- GoodRec, impl, kinds 2 and 3. -/
namespace Go.Proofs.YtpiheobpobclgaaGreatDoor
open Go.RowKit

def bareB (L : Int) (nr nw : Nat) : Bool := decide (L = 0) && (decide (nr = 0) && decide (nw = 0))
noncomputable def prepB (r : RecD) : Bool := inB r.Txn 1 60 && (inB r.Time 1 100000 && (inB r.Lead 0 3 && (decide (r.Reads.length ≤ 8) && (pB (Rising r.Reads) && (decide (r.Writes.length ≤ 8) && (goodWB r.Writes && (decide (0 < r.Reads.length + r.Writes.length) && !r.Yes)))))))
def doneB (r : RecD) : Bool := bareB r.Lead r.Reads.length r.Writes.length && (inB r.Txn 1 60 && (bif r.Yes then inB r.Time 1 100000 else decide (r.Time = 0)))
def floorB (r : RecD) : Bool := bareB r.Lead r.Reads.length r.Writes.length && (decide (r.Txn = 0) && (inB r.Time 1 100000 && !r.Yes))
/-- Whether a record is good. -/
noncomputable def goodRB (r : RecD) : Bool := bif decide (r.Kind = 1) then prepB r else bif decide (r.Kind = 2) || decide (r.Kind = 3) then doneB r else bif decide (r.Kind = 4) then floorB r else false
theorem rec_kinds (K : Int) : K = 1 ∨ (K = 2 ∨ K = 3) ∨ K = 4 ∨ (K < 1 ∨ 4 < K) := by omega
theorem goodRB_1 {r : RecD} (h : r.Kind = 1) : goodRB r = prepB r := by unfold goodRB; rw [h]; rfl
theorem goodRB_2 {r : RecD} (h : r.Kind = 2 ∨ r.Kind = 3) : goodRB r = doneB r := by unfold goodRB; rcases h with h | h <;> rw [h] <;> rfl
theorem goodRB_4 {r : RecD} (h : r.Kind = 4) : goodRB r = floorB r := by unfold goodRB; rw [h]; rfl
theorem goodRB_no {r : RecD} (h : r.Kind < 1 ∨ 4 < r.Kind) : goodRB r = false := by
  unfold goodRB
  rw [show decide (r.Kind = 1) = false from by simp; omega, show decide (r.Kind = 2) = false from by simp; omega, show decide (r.Kind = 3) = false from by simp; omega, show decide (r.Kind = 4) = false from by simp; omega]
  rfl

/-- impl.isTxn -/
theorem isTxn_any (n : Int) (w : World) : Calls Tryz.prog 36 #[.int .i64 n] w fun e w' => e = .returned (.bool (inB n 1 60)) ∧ w = w' := by
  go_enter Tryz.func36, Tryz.ntmps36
  go_wp2_with (go_at_call 38; refine (within_any _ _ _ _).mono ?_; rintro e w1 ⟨rfl, rfl⟩)
  go_ret
  exact ⟨rfl, rfl⟩

set_option maxRecDepth 100000 in
set_option maxHeartbeats 6400000 in
theorem goodRec_2 (K T Ti L : Int) (pr pw : Option Addr) (nr nw cr cw : Nat) (Y : Bool) (hK : K = 2 ∨ K = 3) (hnr : nr ≤ 1048576) (hnw : nw ≤ 1048576) (w : World) :
    Calls Tryz.prog 19 #[.agg #[.int .i64 K, .int .i64 T, .int .i64 Ti, .int .i64 L, .slice pr nr cr, .slice pw nw cw, .bool Y]] w fun e w' => e = .returned (.bool (bareB L nr nw && (inB T 1 60 && (bif Y then inB Ti 1 100000 else decide (Ti = 0))))) ∧ Below w.heap.size w w' := by
  have hnrI : (nr : Int) ≤ 1048576 := by omega
  have hnwI : (nw : Int) ≤ 1048576 := by omega
  have HT := Lib.hid (isTxn_any T)
  have HI := Lib.hid (isTime_any Ti)
  obtain ⟨G, hG⟩ : ∃ G, (bareB L nr nw && (inB T 1 60 && (bif Y then inB Ti 1 100000 else decide (Ti = 0)))) = G := ⟨_, rfl⟩
  have HG := Lib.hid hG
  rw [hG]
  clear hG
  generalize inB T 1 60 = t at *
  generalize inB Ti 1 100000 = i at *
  go_enter Tryz.func19, Tryz.ntmps19
  go_upto_region 1 with fail
  go_cut [3] (fun s wx => s = .bool (bareB L nr nw) ∧ wx = w.alloc (.cells #[.int .i64 K, .int .i64 T, .int .i64 Ti, .int .i64 L, .slice pr nr cr, .slice pw nw cw, .bool Y] 25))
  case first =>
    by_cases h1 : L = 0
    · subst h1
      by_cases h2 : nr = 0
      · subst h2
        by_cases h3 : nw = 0
        · subst h3
          go_wp2
          go_meet
          exact ⟨rfl, rfl⟩
        · have h3' : ((nw : Int) == 0) = false := by simp; omega
          have Hb : Hid (bareB 0 0 nw = false) := Lib.hid (by unfold bareB; simp [h3])
          go_wp2
          go_meet
          exact ⟨by rw [Hb.out], rfl⟩
      · have h2' : ((nr : Int) == 0) = false := by simp; omega
        have Hb : Hid (bareB 0 nr nw = false) := Lib.hid (by unfold bareB; simp [h2])
        go_wp2
        go_meet
        exact ⟨by rw [Hb.out], rfl⟩
    · have h1' : (L == 0) = false := by simpa using h1
      have Hb : Hid (bareB L nr nw = false) := Lib.hid (by unfold bareB; simp [h1])
      go_wp2
      go_meet
      exact ⟨by rw [Hb.out], rfl⟩
  case rest =>
    obtain ⟨rfl, rfl⟩ := hcut
    generalize bareB L nr nw = bb at *
    rcases hK with rfl | rfl
    all_goals
      cases bb
      · go_wp2
        go_ret
        exact ⟨ret_bool (by rw [← HG.out]; rfl), by (repeat (first | (with_reducible exact Below.refl _ _) | (with_reducible refine below_setCell ?_ (by first | (simp; done) | (simp; omega) | omega)) | (with_reducible refine below_alloc _ ?_) | (with_reducible refine below_drewN ?_ _) | (with_reducible assumption) | (with_reducible refine below_after (by assumption) ?_)))⟩
      cases t
      · go_wp2_with (go_at_call 36; refine (HT.out _).mono ?_; rintro e w1 ⟨rfl, rfl⟩)
        go_ret
        exact ⟨ret_bool (by rw [← HG.out]; rfl), by (repeat (first | (with_reducible exact Below.refl _ _) | (with_reducible refine below_setCell ?_ (by first | (simp; done) | (simp; omega) | omega)) | (with_reducible refine below_alloc _ ?_) | (with_reducible refine below_drewN ?_ _) | (with_reducible assumption) | (with_reducible refine below_after (by assumption) ?_)))⟩
      cases Y
      · by_cases hz : Ti = 0
        · subst hz
          go_wp2_with (go_at_call 36; refine (HT.out _).mono ?_; rintro e w1 ⟨rfl, rfl⟩)
          go_ret
          exact ⟨ret_bool (by rw [← HG.out]; rfl), by (repeat (first | (with_reducible exact Below.refl _ _) | (with_reducible refine below_setCell ?_ (by first | (simp; done) | (simp; omega) | omega)) | (with_reducible refine below_alloc _ ?_) | (with_reducible refine below_drewN ?_ _) | (with_reducible assumption) | (with_reducible refine below_after (by assumption) ?_)))⟩
        · have hz2 : (Ti == 0) = false := by simpa using hz
          go_wp2_with (go_at_call 36; refine (HT.out _).mono ?_; rintro e w1 ⟨rfl, rfl⟩)
          go_ret
          exact ⟨ret_bool (by rw [← HG.out]; simp [hz]), by (repeat (first | (with_reducible exact Below.refl _ _) | (with_reducible refine below_setCell ?_ (by first | (simp; done) | (simp; omega) | omega)) | (with_reducible refine below_alloc _ ?_) | (with_reducible refine below_drewN ?_ _) | (with_reducible assumption) | (with_reducible refine below_after (by assumption) ?_)))⟩
      · cases i
        · go_wp2_with (first | (go_at_call 36; refine (HT.out _).mono ?_; rintro e w1 ⟨rfl, rfl⟩) | (go_at_call 37; refine (HI.out _).mono ?_; rintro e w1 ⟨rfl, rfl⟩))
          go_ret
          exact ⟨ret_bool (by rw [← HG.out]; rfl), by (repeat (first | (with_reducible exact Below.refl _ _) | (with_reducible refine below_setCell ?_ (by first | (simp; done) | (simp; omega) | omega)) | (with_reducible refine below_alloc _ ?_) | (with_reducible refine below_drewN ?_ _) | (with_reducible assumption) | (with_reducible refine below_after (by assumption) ?_)))⟩
        · go_wp2_with (first | (go_at_call 36; refine (HT.out _).mono ?_; rintro e w1 ⟨rfl, rfl⟩) | (go_at_call 37; refine (HI.out _).mono ?_; rintro e w1 ⟨rfl, rfl⟩))
          go_ret
          exact ⟨ret_bool (by rw [← HG.out]; rfl), by (repeat (first | (with_reducible exact Below.refl _ _) | (with_reducible refine below_setCell ?_ (by first | (simp; done) | (simp; omega) | omega)) | (with_reducible refine below_alloc _ ?_) | (with_reducible refine below_drewN ?_ _) | (with_reducible assumption) | (with_reducible refine below_after (by assumption) ?_)))⟩

end Go.Proofs.YtpiheobpobclgaaGreatDoor


/- GoodRec, impl, kind 4 and none. -/
namespace Go.Proofs.YtpiheobpobclgaaGreatDoor
open Go.RowKit

set_option maxRecDepth 100000 in
set_option maxHeartbeats 6400000 in
theorem goodRec_4 (K T Ti L : Int) (pr pw : Option Addr) (nr nw cr cw : Nat) (Y : Bool) (hK : K = 4) (hnr : nr ≤ 1048576) (hnw : nw ≤ 1048576) (w : World) :
    Calls Tryz.prog 19 #[.agg #[.int .i64 K, .int .i64 T, .int .i64 Ti, .int .i64 L, .slice pr nr cr, .slice pw nw cw, .bool Y]] w fun e w' => e = .returned (.bool (bareB L nr nw && (decide (T = 0) && (inB Ti 1 100000 && !Y)))) ∧ Below w.heap.size w w' := by
  subst hK
  have hnrI : (nr : Int) ≤ 1048576 := by omega
  have hnwI : (nw : Int) ≤ 1048576 := by omega
  have HI := Lib.hid (isTime_any Ti)
  obtain ⟨G, hG⟩ : ∃ G, (bareB L nr nw && (decide (T = 0) && (inB Ti 1 100000 && !Y))) = G := ⟨_, rfl⟩
  have HG := Lib.hid hG
  rw [hG]
  clear hG
  generalize inB Ti 1 100000 = i at *
  go_enter Tryz.func19, Tryz.ntmps19
  go_upto_region 1 with fail
  go_cut [3] (fun s wx => s = .bool (bareB L nr nw) ∧ wx = w.alloc (.cells #[.int .i64 4, .int .i64 T, .int .i64 Ti, .int .i64 L, .slice pr nr cr, .slice pw nw cw, .bool Y] 25))
  case first =>
    by_cases h1 : L = 0
    · subst h1
      by_cases h2 : nr = 0
      · subst h2
        by_cases h3 : nw = 0
        · subst h3
          go_wp2
          go_meet
          exact ⟨rfl, rfl⟩
        · have h3' : ((nw : Int) == 0) = false := by simp; omega
          have Hb : Hid (bareB 0 0 nw = false) := Lib.hid (by unfold bareB; simp [h3])
          go_wp2
          go_meet
          exact ⟨by rw [Hb.out], rfl⟩
      · have h2' : ((nr : Int) == 0) = false := by simp; omega
        have Hb : Hid (bareB 0 nr nw = false) := Lib.hid (by unfold bareB; simp [h2])
        go_wp2
        go_meet
        exact ⟨by rw [Hb.out], rfl⟩
    · have h1' : (L == 0) = false := by simpa using h1
      have Hb : Hid (bareB L nr nw = false) := Lib.hid (by unfold bareB; simp [h1])
      go_wp2
      go_meet
      exact ⟨by rw [Hb.out], rfl⟩
  case rest =>
    obtain ⟨rfl, rfl⟩ := hcut
    generalize bareB L nr nw = bb at *
    cases bb
    · go_wp2
      go_ret
      exact ⟨ret_bool (by rw [← HG.out]; rfl), by (repeat (first | (with_reducible exact Below.refl _ _) | (with_reducible refine below_setCell ?_ (by first | (simp; done) | (simp; omega) | omega)) | (with_reducible refine below_alloc _ ?_) | (with_reducible refine below_drewN ?_ _) | (with_reducible assumption) | (with_reducible refine below_after (by assumption) ?_)))⟩
    by_cases hz : T = 0
    rotate_left
    · have hz2 : (T == 0) = false := by simpa using hz
      go_wp2
      go_ret
      exact ⟨ret_bool (by rw [← HG.out]; simp [hz]), by (repeat (first | (with_reducible exact Below.refl _ _) | (with_reducible refine below_setCell ?_ (by first | (simp; done) | (simp; omega) | omega)) | (with_reducible refine below_alloc _ ?_) | (with_reducible refine below_drewN ?_ _) | (with_reducible assumption) | (with_reducible refine below_after (by assumption) ?_)))⟩
    subst hz
    cases i <;> cases Y
    all_goals
      go_wp2_with (go_at_call 37; refine (HI.out _).mono ?_; rintro e w1 ⟨rfl, rfl⟩)
      go_ret
      exact ⟨ret_bool (by rw [← HG.out]; rfl), by (repeat (first | (with_reducible exact Below.refl _ _) | (with_reducible refine below_setCell ?_ (by first | (simp; done) | (simp; omega) | omega)) | (with_reducible refine below_alloc _ ?_) | (with_reducible refine below_drewN ?_ _) | (with_reducible assumption) | (with_reducible refine below_after (by assumption) ?_)))⟩

set_option maxRecDepth 100000 in
set_option maxHeartbeats 6400000 in
theorem goodRec_no (K T Ti L : Int) (pr pw : Option Addr) (nr nw cr cw : Nat) (Y : Bool) (hK : K < 1 ∨ 4 < K) (hnr : nr ≤ 1048576) (hnw : nw ≤ 1048576) (w : World) :
    Calls Tryz.prog 19 #[.agg #[.int .i64 K, .int .i64 T, .int .i64 Ti, .int .i64 L, .slice pr nr cr, .slice pw nw cw, .bool Y]] w fun e w' => e = .returned (.bool (false)) ∧ Below w.heap.size w w' := by
  have hnrI : (nr : Int) ≤ 1048576 := by omega
  have hnwI : (nw : Int) ≤ 1048576 := by omega
  have e1 : (K == 1) = false := by simp; omega
  have e2 : (K == 2) = false := by simp; omega
  have e3 : (K == 3) = false := by simp; omega
  have e4 : (K == 4) = false := by simp; omega
  clear hK
  go_enter Tryz.func19, Tryz.ntmps19
  go_upto_region 1 with fail
  go_cut [3] (fun s wx => s = .bool (bareB L nr nw) ∧ wx = w.alloc (.cells #[.int .i64 K, .int .i64 T, .int .i64 Ti, .int .i64 L, .slice pr nr cr, .slice pw nw cw, .bool Y] 25))
  case first =>
    by_cases h1 : L = 0
    · subst h1
      by_cases h2 : nr = 0
      · subst h2
        by_cases h3 : nw = 0
        · subst h3
          go_wp2
          go_meet
          exact ⟨rfl, rfl⟩
        · have h3' : ((nw : Int) == 0) = false := by simp; omega
          have Hb : Hid (bareB 0 0 nw = false) := Lib.hid (by unfold bareB; simp [h3])
          go_wp2
          go_meet
          exact ⟨by rw [Hb.out], rfl⟩
      · have h2' : ((nr : Int) == 0) = false := by simp; omega
        have Hb : Hid (bareB 0 nr nw = false) := Lib.hid (by unfold bareB; simp [h2])
        go_wp2
        go_meet
        exact ⟨by rw [Hb.out], rfl⟩
    · have h1' : (L == 0) = false := by simpa using h1
      have Hb : Hid (bareB L nr nw = false) := Lib.hid (by unfold bareB; simp [h1])
      go_wp2
      go_meet
      exact ⟨by rw [Hb.out], rfl⟩
  case rest =>
    obtain ⟨rfl, rfl⟩ := hcut
    generalize bareB L nr nw = bb at *
    go_wp2
    go_ret
    exact ⟨rfl, by (repeat (first | (with_reducible exact Below.refl _ _) | (with_reducible refine below_setCell ?_ (by first | (simp; done) | (simp; omega) | omega)) | (with_reducible refine below_alloc _ ?_) | (with_reducible refine below_drewN ?_ _) | (with_reducible assumption) | (with_reducible refine below_after (by assumption) ?_)))⟩

end Go.Proofs.YtpiheobpobclgaaGreatDoor


/- GoodRec, impl, kind 1. -/
namespace Go.Proofs.YtpiheobpobclgaaGreatDoor
open Go.RowKit

set_option maxRecDepth 100000 in
set_option maxHeartbeats 6400000 in
theorem goodRec_1 (T Ti L : Int) (pr pw : Option Addr) (nr nw cr cw : Nat) (Y : Bool) (R : List ByteArray) (Wr : List WriteD) (hnr : nr ≤ 1048576) (hnw : nw ≤ 1048576) (hR : R.length = nr) (hW : Wr.length = nw) (w : World) (rR : Rd Cod.str w (.slice pr nr cr) R) (rW : Rd Cod.write w (.slice pw nw cw) Wr) :
    Calls Tryz.prog 19 #[.agg #[.int .i64 1, .int .i64 T, .int .i64 Ti, .int .i64 L, .slice pr nr cr, .slice pw nw cw, .bool Y]] w fun e w' => e = .returned (.bool (inB T 1 60 && (inB Ti 1 100000 && (inB L 0 3 && (decide (nr ≤ 8) && (pB (Rising R) && (decide (nw ≤ 8) && (goodWB Wr && (decide (0 < nr + nw) && !Y))))))))) ∧ Below w.heap.size w w' := by
  have hnrI : (nr : Int) ≤ 1048576 := by omega
  have hnwI : (nw : Int) ≤ 1048576 := by omega
  have HT := Lib.hid (isTxn_any T)
  have HI := Lib.hid (isTime_any Ti)
  have HL := Lib.hid (within_any L 0 3)
  have HA := Lib.hid (fun (W : World) (b : Below w.heap.size w W) => areRising_any _ R (by omega) W (rR.below b))
  have HW := Lib.hid (fun (W : World) (b : Below w.heap.size w W) => goodWrites_any _ Wr (by omega) W (rW.below b))
  clear rR rW hR hW
  obtain ⟨G, hG⟩ : ∃ G, (inB T 1 60 && (inB Ti 1 100000 && (inB L 0 3 && (decide (nr ≤ 8) && (pB (Rising R) && (decide (nw ≤ 8) && (goodWB Wr && (decide (0 < nr + nw) && !Y)))))))) = G := ⟨_, rfl⟩
  have HG := Lib.hid hG
  rw [hG]
  clear hG
  generalize inB T 1 60 = t at *
  generalize inB Ti 1 100000 = i at *
  generalize inB L 0 3 = l at *
  generalize pB (Rising R) = a at *
  generalize goodWB Wr = g at *
  go_enter Tryz.func19, Tryz.ntmps19
  go_upto_region 1 with fail
  go_cut [3] (fun s wx => s = .bool (bareB L nr nw) ∧ wx = w.alloc (.cells #[.int .i64 1, .int .i64 T, .int .i64 Ti, .int .i64 L, .slice pr nr cr, .slice pw nw cw, .bool Y] 25))
  case first =>
    by_cases h1 : L = 0
    · subst h1
      by_cases h2 : nr = 0
      · subst h2
        by_cases h3 : nw = 0
        · subst h3
          go_wp2
          go_meet
          exact ⟨rfl, rfl⟩
        · have h3' : ((nw : Int) == 0) = false := by simp; omega
          have Hb : Hid (bareB 0 0 nw = false) := Lib.hid (by unfold bareB; simp [h3])
          go_wp2
          go_meet
          exact ⟨by rw [Hb.out], rfl⟩
      · have h2' : ((nr : Int) == 0) = false := by simp; omega
        have Hb : Hid (bareB 0 nr nw = false) := Lib.hid (by unfold bareB; simp [h2])
        go_wp2
        go_meet
        exact ⟨by rw [Hb.out], rfl⟩
    · have h1' : (L == 0) = false := by simpa using h1
      have Hb : Hid (bareB L nr nw = false) := Lib.hid (by unfold bareB; simp [h1])
      go_wp2
      go_meet
      exact ⟨by rw [Hb.out], rfl⟩
  case rest =>
    obtain ⟨rfl, rfl⟩ := hcut
    generalize bareB L nr nw = bb at *
    cases t
    · go_wp2_with (go_at_call 36; refine (HT.out _).mono ?_; rintro e w1 ⟨rfl, rfl⟩)
      go_ret
      exact ⟨ret_bool (by rw [← HG.out]; rfl), by (repeat (first | (with_reducible exact Below.refl _ _) | (with_reducible refine below_setCell ?_ (by first | (simp; done) | (simp; omega) | omega)) | (with_reducible refine below_alloc _ ?_) | (with_reducible refine below_drewN ?_ _) | (with_reducible assumption) | (with_reducible refine below_after (by assumption) ?_)))⟩
    cases i
    · go_wp2_with (first | (go_at_call 36; refine (HT.out _).mono ?_; rintro e w1 ⟨rfl, rfl⟩) | (go_at_call 37; refine (HI.out _).mono ?_; rintro e w1 ⟨rfl, rfl⟩))
      go_ret
      exact ⟨ret_bool (by rw [← HG.out]; rfl), by (repeat (first | (with_reducible exact Below.refl _ _) | (with_reducible refine below_setCell ?_ (by first | (simp; done) | (simp; omega) | omega)) | (with_reducible refine below_alloc _ ?_) | (with_reducible refine below_drewN ?_ _) | (with_reducible assumption) | (with_reducible refine below_after (by assumption) ?_)))⟩
    cases l
    · go_wp2_with (first | (go_at_call 36; refine (HT.out _).mono ?_; rintro e w1 ⟨rfl, rfl⟩) | (go_at_call 37; refine (HI.out _).mono ?_; rintro e w1 ⟨rfl, rfl⟩) | (go_at_call 38; refine (HL.out _).mono ?_; rintro e w1 ⟨rfl, rfl⟩))
      go_ret
      exact ⟨ret_bool (by rw [← HG.out]; rfl), by (repeat (first | (with_reducible exact Below.refl _ _) | (with_reducible refine below_setCell ?_ (by first | (simp; done) | (simp; omega) | omega)) | (with_reducible refine below_alloc _ ?_) | (with_reducible refine below_drewN ?_ _) | (with_reducible assumption) | (with_reducible refine below_after (by assumption) ?_)))⟩
    by_cases h8 : nr ≤ 8
    rotate_left
    · have h9 : (8 : Int) < (nr : Int) := by omega
      go_wp2_with (first | (go_at_call 36; refine (HT.out _).mono ?_; rintro e w1 ⟨rfl, rfl⟩) | (go_at_call 37; refine (HI.out _).mono ?_; rintro e w1 ⟨rfl, rfl⟩) | (go_at_call 38; refine (HL.out _).mono ?_; rintro e w1 ⟨rfl, rfl⟩))
      go_ret
      exact ⟨ret_bool (by rw [← HG.out]; simp [h8]), by (repeat (first | (with_reducible exact Below.refl _ _) | (with_reducible refine below_setCell ?_ (by first | (simp; done) | (simp; omega) | omega)) | (with_reducible refine below_alloc _ ?_) | (with_reducible refine below_drewN ?_ _) | (with_reducible assumption) | (with_reducible refine below_after (by assumption) ?_)))⟩
    have h9 : (nr : Int) ≤ 8 := by omega
    cases a
    · go_wp2_with (first | (go_at_call 36; refine (HT.out _).mono ?_; rintro e w1 ⟨rfl, rfl⟩) | (go_at_call 37; refine (HI.out _).mono ?_; rintro e w1 ⟨rfl, rfl⟩) | (go_at_call 38; refine (HL.out _).mono ?_; rintro e w1 ⟨rfl, rfl⟩) | (go_at_call 39; refine (HA.out _ (by (repeat (first | (with_reducible exact Below.refl _ _) | (with_reducible refine below_setCell ?_ (by first | (simp; done) | (simp; omega) | omega)) | (with_reducible refine below_alloc _ ?_) | (with_reducible refine below_drewN ?_ _) | (with_reducible assumption) | (with_reducible refine below_after (by assumption) ?_))))).mono ?_; rintro e w2 ⟨rfl, k2⟩; have hx2 := bcell k2; have q2 : w.heap.size < w2.heap.size := (by have := k2.size; simp at this; omega); have b2 : Below w.heap.size w w2 := below_after k2 (by (repeat (first | (with_reducible exact Below.refl _ _) | (with_reducible refine below_setCell ?_ (by first | (simp; done) | (simp; omega) | omega)) | (with_reducible refine below_alloc _ ?_) | (with_reducible refine below_drewN ?_ _) | (with_reducible assumption) | (with_reducible refine below_after (by assumption) ?_))))))
      go_ret
      exact ⟨ret_bool (by rw [← HG.out]; simp), by (repeat (first | (with_reducible exact Below.refl _ _) | (with_reducible refine below_setCell ?_ (by first | (simp; done) | (simp; omega) | omega)) | (with_reducible refine below_alloc _ ?_) | (with_reducible refine below_drewN ?_ _) | (with_reducible assumption) | (with_reducible refine below_after (by assumption) ?_)))⟩
    by_cases g8 : nw ≤ 8
    rotate_left
    · have g9 : (8 : Int) < (nw : Int) := by omega
      go_wp2_with (first | (go_at_call 36; refine (HT.out _).mono ?_; rintro e w1 ⟨rfl, rfl⟩) | (go_at_call 37; refine (HI.out _).mono ?_; rintro e w1 ⟨rfl, rfl⟩) | (go_at_call 38; refine (HL.out _).mono ?_; rintro e w1 ⟨rfl, rfl⟩) | (go_at_call 39; refine (HA.out _ (by (repeat (first | (with_reducible exact Below.refl _ _) | (with_reducible refine below_setCell ?_ (by first | (simp; done) | (simp; omega) | omega)) | (with_reducible refine below_alloc _ ?_) | (with_reducible refine below_drewN ?_ _) | (with_reducible assumption) | (with_reducible refine below_after (by assumption) ?_))))).mono ?_; rintro e w2 ⟨rfl, k2⟩; have hx2 := bcell k2; have q2 : w.heap.size < w2.heap.size := (by have := k2.size; simp at this; omega); have b2 : Below w.heap.size w w2 := below_after k2 (by (repeat (first | (with_reducible exact Below.refl _ _) | (with_reducible refine below_setCell ?_ (by first | (simp; done) | (simp; omega) | omega)) | (with_reducible refine below_alloc _ ?_) | (with_reducible refine below_drewN ?_ _) | (with_reducible assumption) | (with_reducible refine below_after (by assumption) ?_))))))
      go_ret
      exact ⟨ret_bool (by rw [← HG.out]; simp [g8]), by (repeat (first | (with_reducible exact Below.refl _ _) | (with_reducible refine below_setCell ?_ (by first | (simp; done) | (simp; omega) | omega)) | (with_reducible refine below_alloc _ ?_) | (with_reducible refine below_drewN ?_ _) | (with_reducible assumption) | (with_reducible refine below_after (by assumption) ?_)))⟩
    have g9 : (nw : Int) ≤ 8 := by omega
    cases g
    · go_wp2_with (first | (go_at_call 36; refine (HT.out _).mono ?_; rintro e w1 ⟨rfl, rfl⟩) | (go_at_call 37; refine (HI.out _).mono ?_; rintro e w1 ⟨rfl, rfl⟩) | (go_at_call 38; refine (HL.out _).mono ?_; rintro e w1 ⟨rfl, rfl⟩) | (go_at_call 39; refine (HA.out _ (by (repeat (first | (with_reducible exact Below.refl _ _) | (with_reducible refine below_setCell ?_ (by first | (simp; done) | (simp; omega) | omega)) | (with_reducible refine below_alloc _ ?_) | (with_reducible refine below_drewN ?_ _) | (with_reducible assumption) | (with_reducible refine below_after (by assumption) ?_))))).mono ?_; rintro e w2 ⟨rfl, k2⟩; have hx2 := bcell k2; have q2 : w.heap.size < w2.heap.size := (by have := k2.size; simp at this; omega); have b2 : Below w.heap.size w w2 := below_after k2 (by (repeat (first | (with_reducible exact Below.refl _ _) | (with_reducible refine below_setCell ?_ (by first | (simp; done) | (simp; omega) | omega)) | (with_reducible refine below_alloc _ ?_) | (with_reducible refine below_drewN ?_ _) | (with_reducible assumption) | (with_reducible refine below_after (by assumption) ?_))))) | (go_at_call 40; refine (HW.out _ (by (repeat (first | (with_reducible exact Below.refl _ _) | (with_reducible refine below_setCell ?_ (by first | (simp; done) | (simp; omega) | omega)) | (with_reducible refine below_alloc _ ?_) | (with_reducible refine below_drewN ?_ _) | (with_reducible assumption) | (with_reducible refine below_after (by assumption) ?_))))).mono ?_; rintro e w3 ⟨rfl, k3⟩; have hx3 := bcell k3; have q3 : w.heap.size < w3.heap.size := Nat.lt_of_lt_of_le q2 k3.size; have b3 : Below w.heap.size w w3 := below_after k3 b2))
      go_ret
      exact ⟨ret_bool (by rw [← HG.out]; simp), by (repeat (first | (with_reducible exact Below.refl _ _) | (with_reducible refine below_setCell ?_ (by first | (simp; done) | (simp; omega) | omega)) | (with_reducible refine below_alloc _ ?_) | (with_reducible refine below_drewN ?_ _) | (with_reducible assumption) | (with_reducible refine below_after (by assumption) ?_)))⟩
    by_cases hs : 0 < nr + nw
    rotate_left
    · have hs2 : (nr : Int) + (nw : Int) ≤ 0 := by omega
      go_wp2_with (first | (go_at_call 36; refine (HT.out _).mono ?_; rintro e w1 ⟨rfl, rfl⟩) | (go_at_call 37; refine (HI.out _).mono ?_; rintro e w1 ⟨rfl, rfl⟩) | (go_at_call 38; refine (HL.out _).mono ?_; rintro e w1 ⟨rfl, rfl⟩) | (go_at_call 39; refine (HA.out _ (by (repeat (first | (with_reducible exact Below.refl _ _) | (with_reducible refine below_setCell ?_ (by first | (simp; done) | (simp; omega) | omega)) | (with_reducible refine below_alloc _ ?_) | (with_reducible refine below_drewN ?_ _) | (with_reducible assumption) | (with_reducible refine below_after (by assumption) ?_))))).mono ?_; rintro e w2 ⟨rfl, k2⟩; have hx2 := bcell k2; have q2 : w.heap.size < w2.heap.size := (by have := k2.size; simp at this; omega); have b2 : Below w.heap.size w w2 := below_after k2 (by (repeat (first | (with_reducible exact Below.refl _ _) | (with_reducible refine below_setCell ?_ (by first | (simp; done) | (simp; omega) | omega)) | (with_reducible refine below_alloc _ ?_) | (with_reducible refine below_drewN ?_ _) | (with_reducible assumption) | (with_reducible refine below_after (by assumption) ?_))))) | (go_at_call 40; refine (HW.out _ (by (repeat (first | (with_reducible exact Below.refl _ _) | (with_reducible refine below_setCell ?_ (by first | (simp; done) | (simp; omega) | omega)) | (with_reducible refine below_alloc _ ?_) | (with_reducible refine below_drewN ?_ _) | (with_reducible assumption) | (with_reducible refine below_after (by assumption) ?_))))).mono ?_; rintro e w3 ⟨rfl, k3⟩; have hx3 := bcell k3; have q3 : w.heap.size < w3.heap.size := Nat.lt_of_lt_of_le q2 k3.size; have b3 : Below w.heap.size w w3 := below_after k3 b2))
      go_ret
      exact ⟨ret_bool (by rw [← HG.out]; simp; omega), by (repeat (first | (with_reducible exact Below.refl _ _) | (with_reducible refine below_setCell ?_ (by first | (simp; done) | (simp; omega) | omega)) | (with_reducible refine below_alloc _ ?_) | (with_reducible refine below_drewN ?_ _) | (with_reducible assumption) | (with_reducible refine below_after (by assumption) ?_)))⟩
    have hs2 : 0 < (nr : Int) + (nw : Int) := by omega
    cases Y
    all_goals
      go_wp2_with (first | (go_at_call 36; refine (HT.out _).mono ?_; rintro e w1 ⟨rfl, rfl⟩) | (go_at_call 37; refine (HI.out _).mono ?_; rintro e w1 ⟨rfl, rfl⟩) | (go_at_call 38; refine (HL.out _).mono ?_; rintro e w1 ⟨rfl, rfl⟩) | (go_at_call 39; refine (HA.out _ (by (repeat (first | (with_reducible exact Below.refl _ _) | (with_reducible refine below_setCell ?_ (by first | (simp; done) | (simp; omega) | omega)) | (with_reducible refine below_alloc _ ?_) | (with_reducible refine below_drewN ?_ _) | (with_reducible assumption) | (with_reducible refine below_after (by assumption) ?_))))).mono ?_; rintro e w2 ⟨rfl, k2⟩; have hx2 := bcell k2; have q2 : w.heap.size < w2.heap.size := (by have := k2.size; simp at this; omega); have b2 : Below w.heap.size w w2 := below_after k2 (by (repeat (first | (with_reducible exact Below.refl _ _) | (with_reducible refine below_setCell ?_ (by first | (simp; done) | (simp; omega) | omega)) | (with_reducible refine below_alloc _ ?_) | (with_reducible refine below_drewN ?_ _) | (with_reducible assumption) | (with_reducible refine below_after (by assumption) ?_))))) | (go_at_call 40; refine (HW.out _ (by (repeat (first | (with_reducible exact Below.refl _ _) | (with_reducible refine below_setCell ?_ (by first | (simp; done) | (simp; omega) | omega)) | (with_reducible refine below_alloc _ ?_) | (with_reducible refine below_drewN ?_ _) | (with_reducible assumption) | (with_reducible refine below_after (by assumption) ?_))))).mono ?_; rintro e w3 ⟨rfl, k3⟩; have hx3 := bcell k3; have q3 : w.heap.size < w3.heap.size := Nat.lt_of_lt_of_le q2 k3.size; have b3 : Below w.heap.size w w3 := below_after k3 b2))
      go_ret
      exact ⟨ret_bool (by rw [← HG.out]; simp [h8, g8, hs]), by (repeat (first | (with_reducible exact Below.refl _ _) | (with_reducible refine below_setCell ?_ (by first | (simp; done) | (simp; omega) | omega)) | (with_reducible refine below_alloc _ ?_) | (with_reducible refine below_drewN ?_ _) | (with_reducible assumption) | (with_reducible refine below_after (by assumption) ?_)))⟩

end Go.Proofs.YtpiheobpobclgaaGreatDoor


/- l4Good, spec, kinds 2 to 4 and none. -/
namespace Go.Proofs.YtpiheobpobclgaaGreatDoor
open Go.RowKit

set_option maxRecDepth 100000 in
set_option maxHeartbeats 6400000 in
theorem l4Good_2 (K T Ti L : Int) (pr pw : Option Addr) (nr nw cr cw : Nat) (Y : Bool) (hK : K = 2 ∨ K = 3) (hnr : nr ≤ 1048576) (hnw : nw ≤ 1048576) (w : World) :
    Calls Tryz.prog 13 #[.agg #[.int .i64 K, .int .i64 T, .int .i64 Ti, .int .i64 L, .slice pr nr cr, .slice pw nw cw, .bool Y]] w fun e w' => e = .returned (.bool (bareB L nr nw && (inB T 1 60 && (bif Y then inB Ti 1 100000 else decide (Ti = 0))))) ∧ Below w.heap.size w w' := by
  have hnrI : (nr : Int) ≤ 1048576 := by omega
  have hnwI : (nw : Int) ≤ 1048576 := by omega
  have HT := Lib.hid (l1In_any T 1 60)
  have HI := Lib.hid (l3Time_any Ti)
  obtain ⟨G, hG⟩ : ∃ G, (bareB L nr nw && (inB T 1 60 && (bif Y then inB Ti 1 100000 else decide (Ti = 0)))) = G := ⟨_, rfl⟩
  have HG := Lib.hid hG
  rw [hG]
  clear hG
  generalize inB T 1 60 = t at *
  generalize inB Ti 1 100000 = i at *
  by_cases h1 : L = 0
  rotate_left
  · have h1' : (L == 0) = false := by simpa using h1
    have Hb : Hid (bareB L nr nw = false) := Lib.hid (by unfold bareB; simp [h1])
    rcases hK with rfl | rfl
    all_goals
      go_enter Tryz.func13, Tryz.ntmps13
      go_wp2
      go_ret
      exact ⟨ret_bool (by rw [← HG.out, Hb.out]; rfl), by (repeat (first | (with_reducible exact Below.refl _ _) | (with_reducible refine below_setCell ?_ (by first | (simp; done) | (simp; omega) | omega)) | (with_reducible refine below_alloc _ ?_) | (with_reducible refine below_drewN ?_ _) | (with_reducible assumption) | (with_reducible refine below_after (by assumption) ?_)))⟩
  subst h1
  by_cases h2 : nr + nw = 0
  rotate_left
  · have hs : 0 < (nr : Int) + (nw : Int) := by omega
    have Hb : Hid (bareB 0 nr nw = false) := Lib.hid (by unfold bareB; simp; omega)
    rcases hK with rfl | rfl
    all_goals
      go_enter Tryz.func13, Tryz.ntmps13
      go_wp2
      go_ret
      exact ⟨ret_bool (by rw [← HG.out, Hb.out]; rfl), by (repeat (first | (with_reducible exact Below.refl _ _) | (with_reducible refine below_setCell ?_ (by first | (simp; done) | (simp; omega) | omega)) | (with_reducible refine below_alloc _ ?_) | (with_reducible refine below_drewN ?_ _) | (with_reducible assumption) | (with_reducible refine below_after (by assumption) ?_)))⟩
  obtain rfl : nr = 0 := by omega
  obtain rfl : nw = 0 := by omega
  clear h2
  rcases hK with rfl | rfl
  all_goals
    cases t
    · go_enter Tryz.func13, Tryz.ntmps13
      go_wp2_with (go_at_call 27; (with_reducible refine (HT.out _).mono ?_); rintro e w1 ⟨rfl, rfl⟩)
      go_ret
      exact ⟨ret_bool (by rw [← HG.out]; rfl), by (repeat (first | (with_reducible exact Below.refl _ _) | (with_reducible refine below_setCell ?_ (by first | (simp; done) | (simp; omega) | omega)) | (with_reducible refine below_alloc _ ?_) | (with_reducible refine below_drewN ?_ _) | (with_reducible assumption) | (with_reducible refine below_after (by assumption) ?_)))⟩
    cases Y
    · by_cases hz : Ti = 0
      · subst hz
        go_enter Tryz.func13, Tryz.ntmps13
        go_wp2_with (go_at_call 27; (with_reducible refine (HT.out _).mono ?_); rintro e w1 ⟨rfl, rfl⟩)
        go_ret
        exact ⟨ret_bool (by rw [← HG.out]; rfl), by (repeat (first | (with_reducible exact Below.refl _ _) | (with_reducible refine below_setCell ?_ (by first | (simp; done) | (simp; omega) | omega)) | (with_reducible refine below_alloc _ ?_) | (with_reducible refine below_drewN ?_ _) | (with_reducible assumption) | (with_reducible refine below_after (by assumption) ?_)))⟩
      · have hz2 : (Ti == 0) = false := by simpa using hz
        go_enter Tryz.func13, Tryz.ntmps13
        go_wp2_with (go_at_call 27; (with_reducible refine (HT.out _).mono ?_); rintro e w1 ⟨rfl, rfl⟩)
        go_ret
        exact ⟨ret_bool (by rw [← HG.out]; simp [hz]), by (repeat (first | (with_reducible exact Below.refl _ _) | (with_reducible refine below_setCell ?_ (by first | (simp; done) | (simp; omega) | omega)) | (with_reducible refine below_alloc _ ?_) | (with_reducible refine below_drewN ?_ _) | (with_reducible assumption) | (with_reducible refine below_after (by assumption) ?_)))⟩
    · cases i
      all_goals
        go_enter Tryz.func13, Tryz.ntmps13
        go_wp2_with (first | (go_at_call 27; (with_reducible refine (HT.out _).mono ?_); rintro e w1 ⟨rfl, rfl⟩) | (go_at_call 28; refine (HI.out _).mono ?_; rintro e w1 ⟨rfl, rfl⟩))
        go_ret
        exact ⟨ret_bool (by rw [← HG.out]; rfl), by (repeat (first | (with_reducible exact Below.refl _ _) | (with_reducible refine below_setCell ?_ (by first | (simp; done) | (simp; omega) | omega)) | (with_reducible refine below_alloc _ ?_) | (with_reducible refine below_drewN ?_ _) | (with_reducible assumption) | (with_reducible refine below_after (by assumption) ?_)))⟩

set_option maxRecDepth 100000 in
set_option maxHeartbeats 6400000 in
theorem l4Good_4 (K T Ti L : Int) (pr pw : Option Addr) (nr nw cr cw : Nat) (Y : Bool) (hK : K = 4) (hnr : nr ≤ 1048576) (hnw : nw ≤ 1048576) (w : World) :
    Calls Tryz.prog 13 #[.agg #[.int .i64 K, .int .i64 T, .int .i64 Ti, .int .i64 L, .slice pr nr cr, .slice pw nw cw, .bool Y]] w fun e w' => e = .returned (.bool (bareB L nr nw && (decide (T = 0) && (inB Ti 1 100000 && !Y)))) ∧ Below w.heap.size w w' := by
  subst hK
  have hnrI : (nr : Int) ≤ 1048576 := by omega
  have hnwI : (nw : Int) ≤ 1048576 := by omega
  have HI := Lib.hid (l3Time_any Ti)
  obtain ⟨G, hG⟩ : ∃ G, (bareB L nr nw && (decide (T = 0) && (inB Ti 1 100000 && !Y))) = G := ⟨_, rfl⟩
  have HG := Lib.hid hG
  rw [hG]
  clear hG
  generalize inB Ti 1 100000 = i at *
  by_cases h1 : L = 0
  rotate_left
  · have h1' : (L == 0) = false := by simpa using h1
    have Hb : Hid (bareB L nr nw = false) := Lib.hid (by unfold bareB; simp [h1])
    skip
    all_goals
      go_enter Tryz.func13, Tryz.ntmps13
      go_wp2
      go_ret
      exact ⟨ret_bool (by rw [← HG.out, Hb.out]; rfl), by (repeat (first | (with_reducible exact Below.refl _ _) | (with_reducible refine below_setCell ?_ (by first | (simp; done) | (simp; omega) | omega)) | (with_reducible refine below_alloc _ ?_) | (with_reducible refine below_drewN ?_ _) | (with_reducible assumption) | (with_reducible refine below_after (by assumption) ?_)))⟩
  subst h1
  by_cases h2 : nr + nw = 0
  rotate_left
  · have hs : 0 < (nr : Int) + (nw : Int) := by omega
    have Hb : Hid (bareB 0 nr nw = false) := Lib.hid (by unfold bareB; simp; omega)
    skip
    all_goals
      go_enter Tryz.func13, Tryz.ntmps13
      go_wp2
      go_ret
      exact ⟨ret_bool (by rw [← HG.out, Hb.out]; rfl), by (repeat (first | (with_reducible exact Below.refl _ _) | (with_reducible refine below_setCell ?_ (by first | (simp; done) | (simp; omega) | omega)) | (with_reducible refine below_alloc _ ?_) | (with_reducible refine below_drewN ?_ _) | (with_reducible assumption) | (with_reducible refine below_after (by assumption) ?_)))⟩
  obtain rfl : nr = 0 := by omega
  obtain rfl : nw = 0 := by omega
  clear h2
  by_cases hz : T = 0
  rotate_left
  · have hz2 : (T == 0) = false := by simpa using hz
    go_enter Tryz.func13, Tryz.ntmps13
    go_wp2
    go_ret
    exact ⟨ret_bool (by rw [← HG.out]; simp [hz]), by (repeat (first | (with_reducible exact Below.refl _ _) | (with_reducible refine below_setCell ?_ (by first | (simp; done) | (simp; omega) | omega)) | (with_reducible refine below_alloc _ ?_) | (with_reducible refine below_drewN ?_ _) | (with_reducible assumption) | (with_reducible refine below_after (by assumption) ?_)))⟩
  subst hz
  cases i <;> cases Y
  all_goals
    go_enter Tryz.func13, Tryz.ntmps13
    go_wp2_with (go_at_call 28; refine (HI.out _).mono ?_; rintro e w1 ⟨rfl, rfl⟩)
    go_ret
    exact ⟨ret_bool (by rw [← HG.out]; rfl), by (repeat (first | (with_reducible exact Below.refl _ _) | (with_reducible refine below_setCell ?_ (by first | (simp; done) | (simp; omega) | omega)) | (with_reducible refine below_alloc _ ?_) | (with_reducible refine below_drewN ?_ _) | (with_reducible assumption) | (with_reducible refine below_after (by assumption) ?_)))⟩

set_option maxRecDepth 100000 in
set_option maxHeartbeats 6400000 in
theorem l4Good_no (K T Ti L : Int) (pr pw : Option Addr) (nr nw cr cw : Nat) (Y : Bool) (hK : K < 1 ∨ 4 < K) (hnr : nr ≤ 1048576) (hnw : nw ≤ 1048576) (w : World) :
    Calls Tryz.prog 13 #[.agg #[.int .i64 K, .int .i64 T, .int .i64 Ti, .int .i64 L, .slice pr nr cr, .slice pw nw cw, .bool Y]] w fun e w' => e = .returned (.bool (false)) ∧ Below w.heap.size w w' := by
  have hnrI : (nr : Int) ≤ 1048576 := by omega
  have hnwI : (nw : Int) ≤ 1048576 := by omega
  have e0 : (K != 1) = true := by simp; omega
  have e1 : (K == 1) = false := by simp; omega
  have e2 : (K == 2) = false := by simp; omega
  have e3 : (K == 3) = false := by simp; omega
  have e4 : (K == 4) = false := by simp; omega
  clear hK
  by_cases h1 : L = 0
  rotate_left
  · have h1' : (L == 0) = false := by simpa using h1
    have Hb : Hid (bareB L nr nw = false) := Lib.hid (by unfold bareB; simp [h1])
    skip
    all_goals
      go_enter Tryz.func13, Tryz.ntmps13
      go_wp2
      go_ret
      exact ⟨rfl, by (repeat (first | (with_reducible exact Below.refl _ _) | (with_reducible refine below_setCell ?_ (by first | (simp; done) | (simp; omega) | omega)) | (with_reducible refine below_alloc _ ?_) | (with_reducible refine below_drewN ?_ _) | (with_reducible assumption) | (with_reducible refine below_after (by assumption) ?_)))⟩
  subst h1
  by_cases h2 : nr + nw = 0
  rotate_left
  · have hs : 0 < (nr : Int) + (nw : Int) := by omega
    have Hb : Hid (bareB 0 nr nw = false) := Lib.hid (by unfold bareB; simp; omega)
    skip
    all_goals
      go_enter Tryz.func13, Tryz.ntmps13
      go_wp2
      go_ret
      exact ⟨rfl, by (repeat (first | (with_reducible exact Below.refl _ _) | (with_reducible refine below_setCell ?_ (by first | (simp; done) | (simp; omega) | omega)) | (with_reducible refine below_alloc _ ?_) | (with_reducible refine below_drewN ?_ _) | (with_reducible assumption) | (with_reducible refine below_after (by assumption) ?_)))⟩
  obtain rfl : nr = 0 := by omega
  obtain rfl : nw = 0 := by omega
  clear h2
  go_enter Tryz.func13, Tryz.ntmps13
  go_wp2
  go_ret
  exact ⟨rfl, by (repeat (first | (with_reducible exact Below.refl _ _) | (with_reducible refine below_setCell ?_ (by first | (simp; done) | (simp; omega) | omega)) | (with_reducible refine below_alloc _ ?_) | (with_reducible refine below_drewN ?_ _) | (with_reducible assumption) | (with_reducible refine below_after (by assumption) ?_)))⟩

end Go.Proofs.YtpiheobpobclgaaGreatDoor


/- l4Good, spec, kind 1. -/
namespace Go.Proofs.YtpiheobpobclgaaGreatDoor
open Go.RowKit

set_option maxRecDepth 100000 in
set_option maxHeartbeats 6400000 in
theorem l4Good_1 (T Ti L : Int) (pr pw : Option Addr) (nr nw cr cw : Nat) (Y : Bool) (R : List ByteArray) (Wr : List WriteD) (hnr : nr ≤ 1048576) (hnw : nw ≤ 1048576) (hR : R.length = nr) (hW : Wr.length = nw) (w : World) (rR : Rd Cod.str w (.slice pr nr cr) R) (rW : Rd Cod.write w (.slice pw nw cw) Wr) :
    Calls Tryz.prog 13 #[.agg #[.int .i64 1, .int .i64 T, .int .i64 Ti, .int .i64 L, .slice pr nr cr, .slice pw nw cw, .bool Y]] w fun e w' => e = .returned (.bool (inB T 1 60 && (inB Ti 1 100000 && (inB L 0 3 && (decide (nr ≤ 8) && (pB (Rising R) && (decide (nw ≤ 8) && (goodWB Wr && (decide (0 < nr + nw) && !Y))))))))) ∧ Below w.heap.size w w' := by
  have hnrI : (nr : Int) ≤ 1048576 := by omega
  have hnwI : (nw : Int) ≤ 1048576 := by omega
  have HT := Lib.hid (l1In_any T 1 60)
  have HI := Lib.hid (l3Time_any Ti)
  have HL := Lib.hid (l1In_any L 0 3)
  have HN := Lib.hid (l1In_any (nw : Int) 0 8)
  rw [show inB (nw : Int) 0 8 = decide (nw ≤ 8) from by rw [Bool.eq_iff_iff, inB_iff]; simp; omega] at HN
  have HA := Lib.hid (fun (W : World) (b : Below w.heap.size w W) => l4Keys_any _ R (by omega) W (rR.below b))
  rw [hR] at HA
  have HW := Lib.hid (fun (W : World) (b : Below w.heap.size w W) => l3Writes_any _ Wr (by omega) W (rW.below b))
  clear rR rW hR hW
  obtain ⟨G, hG⟩ : ∃ G, (inB T 1 60 && (inB Ti 1 100000 && (inB L 0 3 && (decide (nr ≤ 8) && (pB (Rising R) && (decide (nw ≤ 8) && (goodWB Wr && (decide (0 < nr + nw) && !Y)))))))) = G := ⟨_, rfl⟩
  have HG := Lib.hid hG
  rw [hG]
  clear hG
  generalize inB T 1 60 = t at *
  generalize inB Ti 1 100000 = i at *
  generalize inB L 0 3 = l at *
  generalize pB (Rising R) = a at *
  generalize goodWB Wr = g at *
  generalize decide (nr ≤ 8) = d at *
  generalize decide (nw ≤ 8) = f at *
  cases t
  · go_enter Tryz.func13, Tryz.ntmps13
    go_wp2_with (first | (go_at_call 27; (with_reducible refine (HT.out _).mono ?_); rintro e w1 ⟨rfl, rfl⟩))
    go_ret
    exact ⟨ret_bool (by rw [← HG.out]; rfl), by (repeat (first | (with_reducible exact Below.refl _ _) | (with_reducible refine below_setCell ?_ (by first | (simp; done) | (simp; omega) | omega)) | (with_reducible refine below_alloc _ ?_) | (with_reducible refine below_drewN ?_ _) | (with_reducible assumption) | (with_reducible refine below_after (by assumption) ?_)))⟩
  cases i
  · go_enter Tryz.func13, Tryz.ntmps13
    go_wp2_with (first | (go_at_call 27; (with_reducible refine (HT.out _).mono ?_); rintro e w1 ⟨rfl, rfl⟩) | (go_at_call 28; refine (HI.out _).mono ?_; rintro e w1 ⟨rfl, rfl⟩))
    go_ret
    exact ⟨ret_bool (by rw [← HG.out]; rfl), by (repeat (first | (with_reducible exact Below.refl _ _) | (with_reducible refine below_setCell ?_ (by first | (simp; done) | (simp; omega) | omega)) | (with_reducible refine below_alloc _ ?_) | (with_reducible refine below_drewN ?_ _) | (with_reducible assumption) | (with_reducible refine below_after (by assumption) ?_)))⟩
  cases l
  · go_enter Tryz.func13, Tryz.ntmps13
    go_wp2_with (first | (go_at_call 27; (with_reducible refine (HT.out _).mono ?_); rintro e w1 ⟨rfl, rfl⟩) | (go_at_call 28; refine (HI.out _).mono ?_; rintro e w1 ⟨rfl, rfl⟩) | (go_at_call 27; (with_reducible refine (HL.out _).mono ?_); rintro e w1 ⟨rfl, rfl⟩))
    go_ret
    exact ⟨ret_bool (by rw [← HG.out]; rfl), by (repeat (first | (with_reducible exact Below.refl _ _) | (with_reducible refine below_setCell ?_ (by first | (simp; done) | (simp; omega) | omega)) | (with_reducible refine below_alloc _ ?_) | (with_reducible refine below_drewN ?_ _) | (with_reducible assumption) | (with_reducible refine below_after (by assumption) ?_)))⟩
  cases d
  · cases a
    all_goals
      go_enter Tryz.func13, Tryz.ntmps13
      go_wp2_with (first | (go_at_call 27; (with_reducible refine (HT.out _).mono ?_); rintro e w1 ⟨rfl, rfl⟩) | (go_at_call 28; refine (HI.out _).mono ?_; rintro e w1 ⟨rfl, rfl⟩) | (go_at_call 27; (with_reducible refine (HL.out _).mono ?_); rintro e w1 ⟨rfl, rfl⟩) | (go_at_call 29; refine (HA.out _ (by (repeat (first | (with_reducible exact Below.refl _ _) | (with_reducible refine below_setCell ?_ (by first | (simp; done) | (simp; omega) | omega)) | (with_reducible refine below_alloc _ ?_) | (with_reducible refine below_drewN ?_ _) | (with_reducible assumption) | (with_reducible refine below_after (by assumption) ?_))))).mono ?_; rintro e w2 ⟨rfl, k2⟩; have hx2 := bcell k2; have q2 : w.heap.size < w2.heap.size := (by have := k2.size; simp at this; omega); have b2 : Below w.heap.size w w2 := below_after k2 (by (repeat (first | (with_reducible exact Below.refl _ _) | (with_reducible refine below_setCell ?_ (by first | (simp; done) | (simp; omega) | omega)) | (with_reducible refine below_alloc _ ?_) | (with_reducible refine below_drewN ?_ _) | (with_reducible assumption) | (with_reducible refine below_after (by assumption) ?_))))))
      go_ret
      exact ⟨ret_bool (by rw [← HG.out]; simp), by (repeat (first | (with_reducible exact Below.refl _ _) | (with_reducible refine below_setCell ?_ (by first | (simp; done) | (simp; omega) | omega)) | (with_reducible refine below_alloc _ ?_) | (with_reducible refine below_drewN ?_ _) | (with_reducible assumption) | (with_reducible refine below_after (by assumption) ?_)))⟩
  cases a
  · go_enter Tryz.func13, Tryz.ntmps13
    go_wp2_with (first | (go_at_call 27; (with_reducible refine (HT.out _).mono ?_); rintro e w1 ⟨rfl, rfl⟩) | (go_at_call 28; refine (HI.out _).mono ?_; rintro e w1 ⟨rfl, rfl⟩) | (go_at_call 27; (with_reducible refine (HL.out _).mono ?_); rintro e w1 ⟨rfl, rfl⟩) | (go_at_call 29; refine (HA.out _ (by (repeat (first | (with_reducible exact Below.refl _ _) | (with_reducible refine below_setCell ?_ (by first | (simp; done) | (simp; omega) | omega)) | (with_reducible refine below_alloc _ ?_) | (with_reducible refine below_drewN ?_ _) | (with_reducible assumption) | (with_reducible refine below_after (by assumption) ?_))))).mono ?_; rintro e w2 ⟨rfl, k2⟩; have hx2 := bcell k2; have q2 : w.heap.size < w2.heap.size := (by have := k2.size; simp at this; omega); have b2 : Below w.heap.size w w2 := below_after k2 (by (repeat (first | (with_reducible exact Below.refl _ _) | (with_reducible refine below_setCell ?_ (by first | (simp; done) | (simp; omega) | omega)) | (with_reducible refine below_alloc _ ?_) | (with_reducible refine below_drewN ?_ _) | (with_reducible assumption) | (with_reducible refine below_after (by assumption) ?_))))))
    go_ret
    exact ⟨ret_bool (by rw [← HG.out]; simp), by (repeat (first | (with_reducible exact Below.refl _ _) | (with_reducible refine below_setCell ?_ (by first | (simp; done) | (simp; omega) | omega)) | (with_reducible refine below_alloc _ ?_) | (with_reducible refine below_drewN ?_ _) | (with_reducible assumption) | (with_reducible refine below_after (by assumption) ?_)))⟩
  cases g
  · go_enter Tryz.func13, Tryz.ntmps13
    go_wp2_with (first | (go_at_call 27; (with_reducible refine (HT.out _).mono ?_); rintro e w1 ⟨rfl, rfl⟩) | (go_at_call 28; refine (HI.out _).mono ?_; rintro e w1 ⟨rfl, rfl⟩) | (go_at_call 27; (with_reducible refine (HL.out _).mono ?_); rintro e w1 ⟨rfl, rfl⟩) | (go_at_call 29; refine (HA.out _ (by (repeat (first | (with_reducible exact Below.refl _ _) | (with_reducible refine below_setCell ?_ (by first | (simp; done) | (simp; omega) | omega)) | (with_reducible refine below_alloc _ ?_) | (with_reducible refine below_drewN ?_ _) | (with_reducible assumption) | (with_reducible refine below_after (by assumption) ?_))))).mono ?_; rintro e w2 ⟨rfl, k2⟩; have hx2 := bcell k2; have q2 : w.heap.size < w2.heap.size := (by have := k2.size; simp at this; omega); have b2 : Below w.heap.size w w2 := below_after k2 (by (repeat (first | (with_reducible exact Below.refl _ _) | (with_reducible refine below_setCell ?_ (by first | (simp; done) | (simp; omega) | omega)) | (with_reducible refine below_alloc _ ?_) | (with_reducible refine below_drewN ?_ _) | (with_reducible assumption) | (with_reducible refine below_after (by assumption) ?_))))) | (go_at_call 30; refine (HW.out _ (by (repeat (first | (with_reducible exact Below.refl _ _) | (with_reducible refine below_setCell ?_ (by first | (simp; done) | (simp; omega) | omega)) | (with_reducible refine below_alloc _ ?_) | (with_reducible refine below_drewN ?_ _) | (with_reducible assumption) | (with_reducible refine below_after (by assumption) ?_))))).mono ?_; rintro e w3 ⟨rfl, k3⟩; have hx3 := bcell k3; have q3 : w.heap.size < w3.heap.size := Nat.lt_of_lt_of_le q2 k3.size; have b3 : Below w.heap.size w w3 := below_after k3 b2))
    go_ret
    exact ⟨ret_bool (by rw [← HG.out]; simp), by (repeat (first | (with_reducible exact Below.refl _ _) | (with_reducible refine below_setCell ?_ (by first | (simp; done) | (simp; omega) | omega)) | (with_reducible refine below_alloc _ ?_) | (with_reducible refine below_drewN ?_ _) | (with_reducible assumption) | (with_reducible refine below_after (by assumption) ?_)))⟩
  cases f
  · go_enter Tryz.func13, Tryz.ntmps13
    go_wp2_with (first | (go_at_call 27; (with_reducible refine (HT.out _).mono ?_); rintro e w1 ⟨rfl, rfl⟩) | (go_at_call 28; refine (HI.out _).mono ?_; rintro e w1 ⟨rfl, rfl⟩) | (go_at_call 27; (with_reducible refine (HL.out _).mono ?_); rintro e w1 ⟨rfl, rfl⟩) | (go_at_call 29; refine (HA.out _ (by (repeat (first | (with_reducible exact Below.refl _ _) | (with_reducible refine below_setCell ?_ (by first | (simp; done) | (simp; omega) | omega)) | (with_reducible refine below_alloc _ ?_) | (with_reducible refine below_drewN ?_ _) | (with_reducible assumption) | (with_reducible refine below_after (by assumption) ?_))))).mono ?_; rintro e w2 ⟨rfl, k2⟩; have hx2 := bcell k2; have q2 : w.heap.size < w2.heap.size := (by have := k2.size; simp at this; omega); have b2 : Below w.heap.size w w2 := below_after k2 (by (repeat (first | (with_reducible exact Below.refl _ _) | (with_reducible refine below_setCell ?_ (by first | (simp; done) | (simp; omega) | omega)) | (with_reducible refine below_alloc _ ?_) | (with_reducible refine below_drewN ?_ _) | (with_reducible assumption) | (with_reducible refine below_after (by assumption) ?_))))) | (go_at_call 30; refine (HW.out _ (by (repeat (first | (with_reducible exact Below.refl _ _) | (with_reducible refine below_setCell ?_ (by first | (simp; done) | (simp; omega) | omega)) | (with_reducible refine below_alloc _ ?_) | (with_reducible refine below_drewN ?_ _) | (with_reducible assumption) | (with_reducible refine below_after (by assumption) ?_))))).mono ?_; rintro e w3 ⟨rfl, k3⟩; have hx3 := bcell k3; have q3 : w.heap.size < w3.heap.size := Nat.lt_of_lt_of_le q2 k3.size; have b3 : Below w.heap.size w w3 := below_after k3 b2) | (go_at_call 27; (with_reducible refine (HN.out _).mono ?_); rintro e w1 ⟨rfl, rfl⟩))
    go_ret
    exact ⟨ret_bool (by rw [← HG.out]; simp), by (repeat (first | (with_reducible exact Below.refl _ _) | (with_reducible refine below_setCell ?_ (by first | (simp; done) | (simp; omega) | omega)) | (with_reducible refine below_alloc _ ?_) | (with_reducible refine below_drewN ?_ _) | (with_reducible assumption) | (with_reducible refine below_after (by assumption) ?_)))⟩
  by_cases hs : 0 < nr + nw
  rotate_left
  · have hs2 : (nr : Int) + (nw : Int) ≤ 0 := by omega
    go_enter Tryz.func13, Tryz.ntmps13
    go_wp2_with (first | (go_at_call 27; (with_reducible refine (HT.out _).mono ?_); rintro e w1 ⟨rfl, rfl⟩) | (go_at_call 28; refine (HI.out _).mono ?_; rintro e w1 ⟨rfl, rfl⟩) | (go_at_call 27; (with_reducible refine (HL.out _).mono ?_); rintro e w1 ⟨rfl, rfl⟩) | (go_at_call 29; refine (HA.out _ (by (repeat (first | (with_reducible exact Below.refl _ _) | (with_reducible refine below_setCell ?_ (by first | (simp; done) | (simp; omega) | omega)) | (with_reducible refine below_alloc _ ?_) | (with_reducible refine below_drewN ?_ _) | (with_reducible assumption) | (with_reducible refine below_after (by assumption) ?_))))).mono ?_; rintro e w2 ⟨rfl, k2⟩; have hx2 := bcell k2; have q2 : w.heap.size < w2.heap.size := (by have := k2.size; simp at this; omega); have b2 : Below w.heap.size w w2 := below_after k2 (by (repeat (first | (with_reducible exact Below.refl _ _) | (with_reducible refine below_setCell ?_ (by first | (simp; done) | (simp; omega) | omega)) | (with_reducible refine below_alloc _ ?_) | (with_reducible refine below_drewN ?_ _) | (with_reducible assumption) | (with_reducible refine below_after (by assumption) ?_))))) | (go_at_call 30; refine (HW.out _ (by (repeat (first | (with_reducible exact Below.refl _ _) | (with_reducible refine below_setCell ?_ (by first | (simp; done) | (simp; omega) | omega)) | (with_reducible refine below_alloc _ ?_) | (with_reducible refine below_drewN ?_ _) | (with_reducible assumption) | (with_reducible refine below_after (by assumption) ?_))))).mono ?_; rintro e w3 ⟨rfl, k3⟩; have hx3 := bcell k3; have q3 : w.heap.size < w3.heap.size := Nat.lt_of_lt_of_le q2 k3.size; have b3 : Below w.heap.size w w3 := below_after k3 b2) | (go_at_call 27; (with_reducible refine (HN.out _).mono ?_); rintro e w1 ⟨rfl, rfl⟩))
    go_ret
    exact ⟨ret_bool (by rw [← HG.out]; simp; omega), by (repeat (first | (with_reducible exact Below.refl _ _) | (with_reducible refine below_setCell ?_ (by first | (simp; done) | (simp; omega) | omega)) | (with_reducible refine below_alloc _ ?_) | (with_reducible refine below_drewN ?_ _) | (with_reducible assumption) | (with_reducible refine below_after (by assumption) ?_)))⟩
  have hs2 : 0 < (nr : Int) + (nw : Int) := by omega
  cases Y
  all_goals
    go_enter Tryz.func13, Tryz.ntmps13
    go_wp2_with (first | (go_at_call 27; (with_reducible refine (HT.out _).mono ?_); rintro e w1 ⟨rfl, rfl⟩) | (go_at_call 28; refine (HI.out _).mono ?_; rintro e w1 ⟨rfl, rfl⟩) | (go_at_call 27; (with_reducible refine (HL.out _).mono ?_); rintro e w1 ⟨rfl, rfl⟩) | (go_at_call 29; refine (HA.out _ (by (repeat (first | (with_reducible exact Below.refl _ _) | (with_reducible refine below_setCell ?_ (by first | (simp; done) | (simp; omega) | omega)) | (with_reducible refine below_alloc _ ?_) | (with_reducible refine below_drewN ?_ _) | (with_reducible assumption) | (with_reducible refine below_after (by assumption) ?_))))).mono ?_; rintro e w2 ⟨rfl, k2⟩; have hx2 := bcell k2; have q2 : w.heap.size < w2.heap.size := (by have := k2.size; simp at this; omega); have b2 : Below w.heap.size w w2 := below_after k2 (by (repeat (first | (with_reducible exact Below.refl _ _) | (with_reducible refine below_setCell ?_ (by first | (simp; done) | (simp; omega) | omega)) | (with_reducible refine below_alloc _ ?_) | (with_reducible refine below_drewN ?_ _) | (with_reducible assumption) | (with_reducible refine below_after (by assumption) ?_))))) | (go_at_call 30; refine (HW.out _ (by (repeat (first | (with_reducible exact Below.refl _ _) | (with_reducible refine below_setCell ?_ (by first | (simp; done) | (simp; omega) | omega)) | (with_reducible refine below_alloc _ ?_) | (with_reducible refine below_drewN ?_ _) | (with_reducible assumption) | (with_reducible refine below_after (by assumption) ?_))))).mono ?_; rintro e w3 ⟨rfl, k3⟩; have hx3 := bcell k3; have q3 : w.heap.size < w3.heap.size := Nat.lt_of_lt_of_le q2 k3.size; have b3 : Below w.heap.size w w3 := below_after k3 b2) | (go_at_call 27; (with_reducible refine (HN.out _).mono ?_); rintro e w1 ⟨rfl, rfl⟩))
    go_ret
    exact ⟨ret_bool (by rw [← HG.out]; simp [hs]), by (repeat (first | (with_reducible exact Below.refl _ _) | (with_reducible refine below_setCell ?_ (by first | (simp; done) | (simp; omega) | omega)) | (with_reducible refine below_alloc _ ?_) | (with_reducible refine below_drewN ?_ _) | (with_reducible assumption) | (with_reducible refine below_after (by assumption) ?_)))⟩

end Go.Proofs.YtpiheobpobclgaaGreatDoor


/- GoodRec, both. -/
namespace Go.Proofs.YtpiheobpobclgaaGreatDoor
open Go.RowKit

/-- impl.GoodRec -/
theorem goodRec_any (x : RecD) (h1 : x.Reads.length ≤ 1048576) (h2 : x.Writes.length ≤ 1048576) (w : World) (a b : Value) (ra : Rd Cod.str w a x.Reads) (rb : Rd Cod.write w b x.Writes) :
    Calls Tryz.prog 19 #[.agg #[.int .i64 x.Kind, .int .i64 x.Txn, .int .i64 x.Time, .int .i64 x.Lead, a, b, .bool x.Yes]] w fun e w' => e = .returned (.bool (goodRB x)) ∧ Below w.heap.size w w' := by
  obtain ⟨pr, cr, rfl, _⟩ := ra.form
  obtain ⟨pw, cw, rfl, _⟩ := rb.form
  rcases rec_kinds x.Kind with h | h | h | h
  · rw [goodRB_1 h, h]
    exact goodRec_1 x.Txn x.Time x.Lead pr pw _ _ cr cw x.Yes x.Reads x.Writes h1 h2 rfl rfl w ra rb
  · rw [goodRB_2 h]
    exact goodRec_2 x.Kind x.Txn x.Time x.Lead pr pw _ _ cr cw x.Yes h h1 h2 w
  · rw [goodRB_4 h]
    exact goodRec_4 x.Kind x.Txn x.Time x.Lead pr pw _ _ cr cw x.Yes h h1 h2 w
  · rw [goodRB_no h]
    exact goodRec_no x.Kind x.Txn x.Time x.Lead pr pw _ _ cr cw x.Yes h h1 h2 w

/-- spec.l4Good -/
theorem l4Good_any (x : RecD) (h1 : x.Reads.length ≤ 1048576) (h2 : x.Writes.length ≤ 1048576) (w : World) (a b : Value) (ra : Rd Cod.str w a x.Reads) (rb : Rd Cod.write w b x.Writes) :
    Calls Tryz.prog 13 #[.agg #[.int .i64 x.Kind, .int .i64 x.Txn, .int .i64 x.Time, .int .i64 x.Lead, a, b, .bool x.Yes]] w fun e w' => e = .returned (.bool (goodRB x)) ∧ Below w.heap.size w w' := by
  obtain ⟨pr, cr, rfl, _⟩ := ra.form
  obtain ⟨pw, cw, rfl, _⟩ := rb.form
  rcases rec_kinds x.Kind with h | h | h | h
  · rw [goodRB_1 h, h]
    exact l4Good_1 x.Txn x.Time x.Lead pr pw _ _ cr cw x.Yes x.Reads x.Writes h1 h2 rfl rfl w ra rb
  · rw [goodRB_2 h]
    exact l4Good_2 x.Kind x.Txn x.Time x.Lead pr pw _ _ cr cw x.Yes h h1 h2 w
  · rw [goodRB_4 h]
    exact l4Good_4 x.Kind x.Txn x.Time x.Lead pr pw _ _ cr cw x.Yes h h1 h2 w
  · rw [goodRB_no h]
    exact l4Good_no x.Kind x.Txn x.Time x.Lead pr pw _ _ cr cw x.Yes h h1 h2 w

end Go.Proofs.YtpiheobpobclgaaGreatDoor

