/- spec.l1Split. -/
import Derived.Test.YtpiheobpobclgaaGreatDoorRowd
import Derived.Test.YtpiheobpobclgaaGreatDoorKit
import Derived.Test.YtpiheobpobclgaaGreatDoorGoodr
namespace Go.Proofs.YtpiheobpobclgaaGreatDoor
open Go.RowKit

/-- The pieces between the bytes c; cur: the piece that is open. -/
def spl (c : UInt8) : List UInt8 → List UInt8 → List (List UInt8)
  | cur, [] => [cur]
  | cur, b :: r => if b = c then cur :: spl c [] r else spl c (cur ++ [b]) r
theorem spl_length (c : UInt8) : ∀ (l cur : List UInt8), (spl c cur l).length ≤ l.length + 1
  | [], _ => Nat.le_refl _
  | b :: r, cur => by
    unfold spl
    split
    · simp only [List.length_cons]; have := spl_length c r []; omega
    · simp only [List.length_cons]; have := spl_length c r (cur ++ [b]); omega

theorem extract_snoc {s : ByteArray} {j k : Nat} (h1 : j ≤ k) (h2 : k < s.size) : (s.extract j (k + 1)).data.toList = (s.extract j k).data.toList ++ [s[k]] := by
  have hl : k < s.data.toList.length := by rw [Array.length_toList]; exact h2
  rw [ByteArray.data_extract, ByteArray.data_extract, Array.toList_extract, Array.toList_extract]
  simp only [List.extract_eq_take_drop]
  rw [show k + 1 - j = (k - j) + 1 from by omega, List.take_succ_eq_append_getElem (by rw [List.length_drop]; omega)]
  congr 2
  rw [List.getElem_drop]
  simp only [show j + (k - j) = k from by omega]
  rfl

set_option maxRecDepth 100000 in
set_option maxHeartbeats 3200000 in
/-- spec.l1Split -/
theorem l1Split_any (s : ByteArray) (c : UInt8) (hs : s.size ≤ 400) (w : World) :
    Calls Tryz.prog 9 #[.string s, .int .u8 (c.toNat : Int)] w fun e w' => ∃ v xs, e = .returned v ∧ Own Cod.str w' w.heap.size v xs ∧ xs.map (·.data.toList) = spl c [] s.data.toList ∧ Below w.heap.size w w' := by
  obtain ⟨i0, hi, hz0, hz1, hz2⟩ := info_parts Tryz_info_str
  have hcI : 0 ≤ (c.toNat : Int) ∧ (c.toNat : Int) ≤ 255 := by have := c.toNat_lt; omega
  have hsI : (s.size : Int) ≤ 400 := by omega
  have Hs := Lib.hid hs
  clear hs
  obtain ⟨hc0, hc1⟩ := hcI
  go_enter Tryz.func9, Tryz.ntmps9
  go_wp2
  go_loopw [5, 6, 7] (fun a st i wr => ∃ (k j : Nat) (xs : List ByteArray), i = .int .i64 (k : Int) ∧ st = .int .i64 (j : Int) ∧ j ≤ k ∧ k ≤ s.size ∧ Hid (xs.length ≤ k) ∧ Hid (xs.map (·.data.toList) ++ spl c (s.extract j k).data.toList (s.data.toList.drop k) = spl c [] s.data.toList) ∧ Hid (Part Cod.str wr w.heap.size 9 a xs.length xs) ∧ Below w.heap.size w wr) (fun _ _ i _ => s.size - (intOf i).toNat)
  case atStart => exact ⟨0, 0, [], rfl, rfl, Nat.le_refl _, Nat.zero_le _, Lib.hid (Nat.le_refl _), Lib.hid (by simp [ByteArray.data_extract]), Lib.hid ⟨[], part_start (World.ownsRow_nil _ _ _ _)⟩, Below.refl _ _⟩
  case round =>
    obtain ⟨k, j, xs, rfl, rfl, hjk, hk, Hl, He, Hp, hb⟩ := hrel
    have hbs := hb.size
    obtain ⟨cells, Pc⟩ := Hp.out
    obtain ⟨pa, ca, rfl⟩ := Pc.form
    have Pc := Lib.hid Pc
    clear Hp
    have hjkI : (j : Int) ≤ (k : Int) := by omega
    have hlI : (xs.length : Int) ≤ 400 := by have := Hl.out; have := Hs.out; omega
    have Hroom : Hid ((xs.length + 1) * 16 ≤ room) := Lib.hid (by unfold room; have := Hl.out; have := Hs.out; omega)
    have Hz : Hid (∀ a b, (s.extract a b).size ≤ maxLen) := Lib.hid (fun a b => by rw [ByteArray.size_extract]; have := Hs.out; unfold maxLen; omega)
    by_cases hlt : k < s.size
    · have hlt2 : (k : Int) < (s.size : Int) := by omega
      have Hd : Hid (s.data.toList.drop k = s[k] :: s.data.toList.drop (k + 1)) := Lib.hid (List.drop_eq_getElem_cons (by rw [Array.length_toList]; exact hlt))
      by_cases hc : s[k] = c
      · have Hn : Hid ((xs ++ [s.extract j k]).map (·.data.toList) ++ spl c (s.extract (k + 1) (k + 1)).data.toList (s.data.toList.drop (k + 1)) = spl c [] s.data.toList) := Lib.hid (by
          rw [← He.out, Hd.out]
          conv => rhs; rw [spl, if_pos hc]
          simp [ByteArray.data_extract])
        have hcI : (s[k].toNat : Int) = (c.toNat : Int) := by rw [hc]
        clear hc He Hd
        go_wp2_with (at_builtin; go_must (refine wpList_append_part (c := Cod.str) wr rfl _ _ 22 (by rfl) w.heap.size 9 9 i0 (.string ⟨#[]⟩) 16 Tryz.underlying22 hi hz0 hz1 hz2 rfl (by decide) (by decide) wr _ xs.length xs cells (by rfl) Pc.out rfl (Below.refl _ _) (s.extract j k) [] [.string (s.extract j k)] rfl ⟨rfl, Hz.out _ _, rfl⟩ (Mine.nil _ _) wr.heap.size rfl (by rfl) (by simp [Value.oneCell']) Hroom.out hbs ?_))
        intro g' cap' w3 hp3 hb3
        have Hp3 := Lib.hid hp3
        have hb4 : Below w.heap.size w w3 := hb.trans hb3
        clear hp3 hb3 Pc
        go_wp2
        go_roundw
        case rel => exact ⟨k + 1, k + 1, xs ++ [s.extract j k], by go_num, by go_num, Nat.le_refl _, by omega, Lib.hid (by have := Hl.out; simp only [List.length_append, List.length_cons, List.length_nil]; omega), Hn, Lib.hid (by rw [List.length_append]; exact Hp3.out), hb4⟩
        case measure => simp [intOf]; omega
      · have Hn : Hid (xs.map (·.data.toList) ++ spl c (s.extract j (k + 1)).data.toList (s.data.toList.drop (k + 1)) = spl c [] s.data.toList) := Lib.hid (by
          rw [← He.out, Hd.out, extract_snoc hjk hlt]
          conv => rhs; rw [spl, if_neg hc])
        have hcI : (s[k].toNat : Int) ≠ (c.toNat : Int) := fun e => hc (UInt8.toNat_inj.1 (by omega))
        clear hc He Hd
        go_wp2
        go_roundw
        case rel => exact ⟨k + 1, j, xs, by go_num, rfl, by omega, by omega, Lib.hid (Nat.le_succ_of_le Hl.out), Hn, Lib.hid ⟨_, Pc.out⟩, hb⟩
        case measure => simp [intOf]; omega
    · have hlt2 : (s.size : Int) ≤ (k : Int) := by omega
      obtain rfl : k = s.size := by omega
      have Hn : Hid ((xs ++ [s.extract j s.size]).map (·.data.toList) = spl c [] s.data.toList) := Lib.hid (by
        rw [← He.out, List.drop_of_length_le (by rw [Array.length_toList]; exact Nat.le_refl _)]
        simp [spl])
      clear He
      go_wp2_with (at_builtin; go_must (refine wpList_append_part (c := Cod.str) wr rfl _ _ 22 (by rfl) w.heap.size 9 9 i0 (.string ⟨#[]⟩) 16 Tryz.underlying22 hi hz0 hz1 hz2 rfl (by decide) (by decide) wr _ xs.length xs cells (by rfl) Pc.out rfl (Below.refl _ _) (s.extract j s.size) [] [.string (s.extract j s.size)] rfl ⟨rfl, Hz.out _ _, rfl⟩ (Mine.nil _ _) wr.heap.size rfl (by rfl) (by simp [Value.oneCell']) Hroom.out hbs ?_))
      intro g' cap' w3 hp3 hb3
      have Hp3 := Lib.hid hp3
      have hb4 : Below w.heap.size w w3 := hb.trans hb3
      clear hp3 hb3 Pc
      go_wp2
      go_ret
      exact ⟨_, _, rfl, Hp3.out.own (by rw [List.length_append]; rfl), Hn.out, hb4⟩

end Go.Proofs.YtpiheobpobclgaaGreatDoor
