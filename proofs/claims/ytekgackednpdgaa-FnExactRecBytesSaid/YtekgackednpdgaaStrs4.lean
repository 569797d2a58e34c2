/- laws.toStringS. -/
import Derived.Test.YtekgackednpdgaaStrs3
namespace Go.Proofs.Ytekgackednpdgaa
open Go.RowKit

set_option maxRecDepth 100000 in
/-- laws.toStringS -/
theorem toStringS_any (v : Value) (l : List ByteArray) (hl : l.length ≤ 1048576) (w : World) (h : StrRow w v l) :
    Calls Try.prog 95 #[v] w fun e w' => ∃ v', e = .returned v' ∧ w'.ownsRow w.heap.size 9 1 v' l.length (l.map Value.string) ∧ Below w.heap.size w w' := by
  obtain ⟨i0, hi, hz0, hz1, hz2⟩ := info_parts Try_info_str
  obtain ⟨p, c, rfl, r⟩ := h
  have R := Lib.hid r
  clear r
  obtain ⟨n, hn⟩ : ∃ n : Nat, l.length = n := ⟨_, rfl⟩
  have Hn := Lib.hid hn
  rw [hn]
  have hnb : (n : Int) ≤ 1048576 := by omega
  clear hn hl
  have hb16 : i0.bytes * n ≤ 281474976710656 := by rw [hz2]; omega
  go_enter Try.func95, Try.ntmps95
  go_wp2_with (refine wpList_make_full w rfl _ _ 50 (by rfl) w.heap.size 9 i0 (.string ⟨#[]⟩) 1 Try.underlying50 hi hz0 hz1 .i64 .i64 (n : Int) (n : Int) n (by rfl) (by rfl) rfl rfl hb16 (by unfold maxLen; omega) (Nat.le_refl _) ?_)
  intro w1 hown1 hg1
  have hex : ∃ zs : List Value, zs.length = n ∧ w1.ownsRow w.heap.size 9 1 (.slice (some ⟨w.heap.size, 0, none⟩) n n) n zs := ⟨_, by have := hown1.1; rw [Nat.mul_one] at this; exact this, hown1⟩
  clear hown1
  obtain ⟨zs, hzs, hown1⟩ := hex
  have Hz := Lib.hid hzs
  have Hown1 := Lib.hid hown1
  clear hzs
  have hb1 : Below w.heap.size w w1 := Below.grown (Below.refl _ _) hg1 (Nat.le_refl _) (by simp)
  clear hown1 hg1 hb16 hi hz0 hz1 hz2
  go_wp2
  go_loopw [4] (fun i wr => ∃ k : Nat, i = .int .i64 (k : Int) ∧ k ≤ n ∧ Hid (wr.ownsRow w.heap.size 9 1 (.slice (some ⟨w.heap.size, 0, none⟩) n n) n ((l.take k).map Value.string ++ zs.drop k)) ∧ Below w.heap.size w wr) (fun i _ => n - (intOf i).toNat)
  case atStart => exact ⟨0, rfl, Nat.zero_le _, Lib.hid (by simpa using Hown1.out), hb1⟩
  case round =>
    obtain ⟨k, rfl, hk, Hown, hb⟩ := hrel
    by_cases hlt : k < n
    · have hlt2 : (k : Int) < (n : Int) := by omega
      have hkl : k < l.length := by have := Hn.out; omega
      obtain ⟨g, o, rfl, hg, hc⟩ := R.out (by have := Hn.out; omega)
      have d0 : wr.cell? ⟨g, o + k, none⟩ = some (.string l[k]) := (hb.cell (p := ⟨g, o + k, none⟩) hg).trans (hc k hkl)
      have hzl : k < ((l.take k).map Value.string ++ zs.drop k).length := by simp; have := Hz.out; omega
      have d1 : wr.cell? ⟨w.heap.size, k, none⟩ = some (((l.take k).map Value.string ++ zs.drop k)[k]'hzl) := by rw [Hown.out.cellAt k (by omega), List.getElem?_eq_getElem hzl]
      have f1 := Hown.out.frozenAt k
      have hst := (Hown.out.stored k (.string l[k])).1
      have e1 : ((l.take k).map Value.string ++ zs.drop k).set k (.string l[k]) = (l.take (k + 1)).map Value.string ++ zs.drop (k + 1) := by
        have h2 : zs.drop k = (zs[k]'(by have := Hz.out; omega)) :: zs.drop (k + 1) := List.drop_eq_getElem_cons _
        have h3 : ((l.take k).map Value.string).length = k := by rw [List.length_map, List.length_take]; omega
        rw [h2, List.set_append_right _ _ (by rw [h3]; exact Nat.le_refl _), h3, Nat.sub_self, List.set_cons_zero, List.take_succ_eq_append_getElem hkl, List.map_append, List.append_assoc]
        rfl
      rw [e1] at hst
      have Hst := Lib.hid hst
      clear hst e1 hc
      generalize ((l.take k).map Value.string ++ zs.drop k)[k]'hzl = old at *
      obtain ⟨s, es⟩ : ∃ s, l[k] = s := ⟨_, rfl⟩
      rw [es] at d0 Hst
      clear es
      go_wp2
      go_roundw
      case rel => exact ⟨k + 1, by go_num, by omega, Hst, hb.setCell (Nat.le_refl _) _⟩
      case measure => simp [intOf]; omega
    · have hlt2 : (n : Int) ≤ (k : Int) := by omega
      obtain rfl : k = n := by omega
      go_wp2
      go_ret
      refine ⟨_, rfl, ?_, hb⟩
      have h3 := Hown.out
      rw [List.drop_of_length_le (by have := Hz.out; omega), List.append_nil, List.take_of_length_le (by have := Hn.out; omega)] at h3
      exact h3

end Go.Proofs.Ytekgackednpdgaa
