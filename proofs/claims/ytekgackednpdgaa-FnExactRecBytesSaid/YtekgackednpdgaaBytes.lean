/- The checksum's and the number code's functions, walked. -/
import Derived.Test.YtekgackednpdgaaSpans
import Derived.Test.YtekgackednpdgaaAppend
namespace Go.Proofs.Ytekgackednpdgaa
open Go.RowKit

/-- impl.sumOf -/
theorem sumOf_any (s : ByteArray) (hs : s.size ≤ maxLen) (w : World) : Calls Try.prog 183 #[.string s] w fun e w' => e = .returned (.int .i64 (sumL s.data.toList)) ∧ w = w' := by
  unfold maxLen at hs
  go_enter Try.func183, Try.ntmps183
  go_wp2
  go_loop [3, 4, 7] (fun t _ i => ∃ k : Nat, k ≤ s.size ∧ i = .int .i64 k ∧ t = .int .i64 (sumL (s.data.toList.take k))) (fun _ _ i => s.size - (intOf i).toNat)
  case atStart => exact ⟨0, Nat.zero_le _, rfl, rfl⟩
  case round =>
    obtain ⟨k, hk, rfl, rfl⟩ := hrel
    obtain ⟨b0, b1⟩ := sumL_bound (s.data.toList.take k)
    by_cases hlt : k < s.size
    · have hsn := sumL_snoc (s.data.toList.take k) s[k]
      have hts := take_snoc s k hlt
      have HS : Hid (sumL (s.data.toList.take (k + 1)) = sumStep (sumL (s.data.toList.take k)) s[k]) := by rw [hts]; exact hsn
      clear hsn hts
      have hcb : (s[k].toNat : Int) ≤ 255 := by have := s[k].toNat_lt; omega
      go_wp2
      go_round
      case rel => exact ⟨k + 1, by omega, by go_num, by rw [HS.out]; unfold sumStep; go_num⟩
      case measure => simp [intOf]; omega
    · go_wp2
      go_ret
      exact ⟨ret_int (by rw [List.take_of_length_le (by simp; omega)]), rfl⟩

/-- spec.l1Sum -/
theorem l1Sum_any (s : ByteArray) (hs : s.size ≤ maxLen) (w : World) : Calls Try.prog 180 #[.string s] w fun e w' => e = .returned (.int .i64 (sumL s.data.toList)) ∧ w = w' := by
  unfold maxLen at hs
  go_enter Try.func180, Try.ntmps180
  go_wp2
  go_loop [3, 4] (fun t i => ∃ k : Nat, k ≤ s.size ∧ i = .int .i64 k ∧ t = .int .i64 (sumL (s.data.toList.take k))) (fun _ i => s.size - (intOf i).toNat)
  case atStart => exact ⟨0, Nat.zero_le _, rfl, rfl⟩
  case round =>
    obtain ⟨k, hk, rfl, rfl⟩ := hrel
    obtain ⟨b0, b1⟩ := sumL_bound (s.data.toList.take k)
    by_cases hlt : k < s.size
    · have hsn := sumL_snoc (s.data.toList.take k) s[k]
      have hts := take_snoc s k hlt
      have HS : Hid (sumL (s.data.toList.take (k + 1)) = sumStep (sumL (s.data.toList.take k)) s[k]) := by rw [hts]; exact hsn
      clear hsn hts
      have hcb : (s[k].toNat : Int) ≤ 255 := by have := s[k].toNat_lt; omega
      go_wp2
      go_round
      case rel => exact ⟨k + 1, by omega, by go_num, by rw [HS.out]; unfold sumStep; go_num⟩
      case measure => simp [intOf]; omega
    · go_wp2
      go_ret
      exact ⟨ret_int (by rw [List.take_of_length_le (by simp; omega)]), rfl⟩

theorem Try_info_u8 : (Try.prog.info? 5).map (fun i => (i.zero, i.size, i.bytes)) = some (some (.int .u8 0), 1, 1) := by kernel_rfl

set_option maxRecDepth 100000 in
/-- impl.numBytes -/
theorem numBytes_any (n : Nat) (hn : n ≤ 1099511627776) (w : World) : Calls Try.prog 143 #[.int .i64 (n : Int)] w fun e w' => e = .returned (.string ⟨(numL n).toArray⟩) ∧ Below w.heap.size w w' := by
  obtain ⟨i0, hi, hz0, hz1, hz2⟩ := info_parts Try_info_u8
  have Hn := Lib.hid hn
  clear hn
  go_enter Try.func143, Try.ntmps143
  go_wp2
  go_loopw [0, 3] (fun m v wr => ∃ (k : Nat) (l : List UInt8), m = .int .i64 k ∧ k ≤ n ∧ l.length + k ≤ n ∧ Hid (l ++ numL k = numL n) ∧ wr.ownsRow w.heap.size 5 1 v l.length (l.map byteV) ∧ Below w.heap.size w wr) (fun m _ _ => (intOf m).toNat)
  case atStart => exact ⟨n, [], rfl, Nat.le_refl _, by simp, rfl, World.ownsRow_made _ _ _ (Nat.le_refl _) (by simp) rfl, below_new _ _⟩
  case round =>
    obtain ⟨k, l, rfl, hk, hlk, hl, hown, hb⟩ := hrel
    have hbs := hb.size
    have hroom : (l.length + 1) * 1 ≤ room := le_room (by have := Hn.out; omega)
    have Hr := Lib.hid hroom
    clear hroom
    have hkb : (k : Int) ≤ 1099511627776 := by have := Hn.out; omega
    by_cases hlt : k < 128
    · have hk8 : (k : Int) ≤ 127 := by omega
      have hbk : byteV (UInt8.ofNat k) = .int .u8 (k : Int) := byteV_ofNat (by omega)
      have Hbk := Lib.hid hbk
      clear hbk
      go_wp2_with (at_builtin; refine wpList_append_one wr rfl _ _ 162 (by rfl) w.heap.size 5 i0 (.int .u8 0) 1 1 Try.underlying162 hi hz0 hz1 hz2 rfl (by decide) (by decide) _ _ _ (by rfl) hown [.int .u8 (k : Int)] rfl (by rfl) (by simp [Value.oneCell']) Hr.out hbs ?_)
      intro v' w1 hown1 _ hb1
      rw [← Hbk.out, show (List.map byteV l ++ [byteV (UInt8.ofNat k)]) = List.map byteV (l ++ [UInt8.ofNat k]) from by simp] at hown1
      have hcv := convert_owned (src := 162) (dst := 9) Try.underlying162 Try.underlying5 Try.underlying9 hown1
      obtain ⟨g, cap, rfl, _⟩ := owned_at hown1 (by omega)
      have Ho := Lib.hid hown1
      clear hown1 hown
      go_wp2
      go_ret
      exact ⟨ret_str (by rw [← hl.out, numL_small hlt]), hb.trans hb1⟩
    · have hbk : byteV (UInt8.ofNat (k % 128 + 128)) = .int .u8 ((k : Int) % 128 + 128) := by rw [byteV_ofNat (by omega)]; simp
      have Hbk := Lib.hid hbk
      clear hbk
      go_wp2_with (at_builtin; refine wpList_append_one wr rfl _ _ 162 (by rfl) w.heap.size 5 i0 (.int .u8 0) 1 1 Try.underlying162 hi hz0 hz1 hz2 rfl (by decide) (by decide) _ _ _ (by rfl) hown [.int .u8 ((k : Int) % 128 + 128)] rfl (by rfl) (by simp [Value.oneCell']) Hr.out hbs ?_)
      intro v' w1 hown1 _ hb1
      rw [← Hbk.out, show (List.map byteV l ++ [byteV (UInt8.ofNat (k % 128 + 128))]) = List.map byteV (l ++ [UInt8.ofNat (k % 128 + 128)]) from by simp] at hown1
      have Ho := Lib.hid hown1
      clear hown1 hown
      go_wp2
      go_roundw
      case rel => exact ⟨k / 128, l ++ [UInt8.ofNat (k % 128 + 128)], by go_num, by omega, by simp; omega, Lib.hid (by rw [← hl.out, numL_big hlt]; simp), by simpa using Ho.out, hb.trans hb1⟩
      case measure => simp [intOf]; omega

set_option maxRecDepth 100000 in
/-- spec.l1NumB -/
theorem l1NumB_any (n : Nat) (hn : n ≤ 1099511627776) (w : World) : Calls Try.prog 140 #[.int .i64 (n : Int)] w fun e w' => e = .returned (.string ⟨(numL n).toArray⟩) ∧ Below w.heap.size w w' := by
  obtain ⟨i0, hi, hz0, hz1, hz2⟩ := info_parts Try_info_u8
  have Hn := Lib.hid hn
  clear hn
  go_enter Try.func140, Try.ntmps140
  go_wp2
  go_loopw [0, 3] (fun m v wr => ∃ (k : Nat) (l : List UInt8), m = .int .i64 k ∧ k ≤ n ∧ l.length + k ≤ n ∧ Hid (l ++ numL k = numL n) ∧ wr.ownsRow w.heap.size 5 1 v l.length (l.map byteV) ∧ Below w.heap.size w wr) (fun m _ _ => (intOf m).toNat)
  case atStart => exact ⟨n, [], rfl, Nat.le_refl _, by simp, rfl, World.ownsRow_nil _ _ _ _, Below.refl _ _⟩
  case round =>
    obtain ⟨k, l, rfl, hk, hlk, hl, hown, hb⟩ := hrel
    have hbs := hb.size
    have hroom : (l.length + 1) * 1 ≤ room := le_room (by have := Hn.out; omega)
    have Hr := Lib.hid hroom
    clear hroom
    have hkb : (k : Int) ≤ 1099511627776 := by have := Hn.out; omega
    by_cases hlt : k < 128
    · have hk8 : (k : Int) ≤ 127 := by omega
      have hbk : byteV (UInt8.ofNat k) = .int .u8 (k : Int) := byteV_ofNat (by omega)
      have Hbk := Lib.hid hbk
      clear hbk
      go_wp2_with (at_builtin; refine wpList_append_one wr rfl _ _ 162 (by rfl) w.heap.size 5 i0 (.int .u8 0) 1 1 Try.underlying162 hi hz0 hz1 hz2 rfl (by decide) (by decide) _ _ _ (by rfl) hown [.int .u8 (k : Int)] rfl (by rfl) (by simp [Value.oneCell']) Hr.out hbs ?_)
      intro v' w1 hown1 _ hb1
      rw [← Hbk.out, show (List.map byteV l ++ [byteV (UInt8.ofNat k)]) = List.map byteV (l ++ [UInt8.ofNat k]) from by simp] at hown1
      have hcv := convert_owned (src := 162) (dst := 9) Try.underlying162 Try.underlying5 Try.underlying9 hown1
      obtain ⟨g, cap, rfl, _⟩ := owned_at hown1 (by omega)
      have Ho := Lib.hid hown1
      clear hown1 hown
      go_wp2
      go_ret
      exact ⟨ret_str (by rw [← hl.out, numL_small hlt]), hb.trans hb1⟩
    · have hbk : byteV (UInt8.ofNat (k % 128 + 128)) = .int .u8 ((k : Int) % 128 + 128) := by rw [byteV_ofNat (by omega)]; simp
      have Hbk := Lib.hid hbk
      clear hbk
      go_wp2_with (at_builtin; refine wpList_append_one wr rfl _ _ 162 (by rfl) w.heap.size 5 i0 (.int .u8 0) 1 1 Try.underlying162 hi hz0 hz1 hz2 rfl (by decide) (by decide) _ _ _ (by rfl) hown [.int .u8 ((k : Int) % 128 + 128)] rfl (by rfl) (by simp [Value.oneCell']) Hr.out hbs ?_)
      intro v' w1 hown1 _ hb1
      rw [← Hbk.out, show (List.map byteV l ++ [byteV (UInt8.ofNat (k % 128 + 128))]) = List.map byteV (l ++ [UInt8.ofNat (k % 128 + 128)]) from by simp] at hown1
      have Ho := Lib.hid hown1
      clear hown1 hown
      go_wp2
      go_roundw
      case rel => exact ⟨k / 128, l ++ [UInt8.ofNat (k % 128 + 128)], by go_num, by omega, by simp; omega, Lib.hid (by rw [← hl.out, numL_big hlt]; simp), by simpa using Ho.out, hb.trans hb1⟩
      case measure => simp [intOf]; omega

end Go.Proofs.Ytekgackednpdgaa
