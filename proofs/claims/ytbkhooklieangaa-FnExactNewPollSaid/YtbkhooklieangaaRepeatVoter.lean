/- slices.Repeat at Voter. Printed by mkrep.py. -/
import Derived.Test.YtbkhooklieangaaNewg
import Derived.Test.YtbkhooklieangaaDataV
namespace Go.Proofs.Ytbkhooklieangaa
open Go.RowKit


set_option maxRecDepth 100000 in
set_option maxHeartbeats 6400000 in
theorem repeatVoter_3 (w : World) (B : Nat) (c0 : w.cell? ⟨B, 0, none⟩ = some (.bool true)) (c1 : w.cell? ⟨B, 1, none⟩ = some (.int .i64 0)) (c2 : w.cell? ⟨B, 2, none⟩ = some (.int .i64 (-1))) (c3 : w.cell? ⟨B, 3, none⟩ = some (.slice none 0 0)) (c4 : w.cell? ⟨B, 4, none⟩ = some (.bool false)) :
    Calls Try.prog 37 #[.slice (some ⟨B, 0, none⟩) 1 1, .int .i64 3] w fun e w' => e = .returned (.slice (some ⟨w.heap.size, 0, none⟩) 3 3) ∧ Fill w 67 [.bool true, .int .i64 0, .int .i64 (-1), .slice none 0 0, .bool false] 3 3 w' := by
  have hb : B < w.heap.size := World.block_lt_of_cell? _ _ c0
  have hmk : ∀ w : World, (Instr.makeSlice 23 (.int .i64 3) (.int .i64 3)).run Try.prog w = .ok (.slice (some ⟨w.heap.size, 0, none⟩) 3 3) (w.alloc (.cells #[.bool false, .int .i64 0, .int .i64 0, .slice none 0 0, .bool false, .bool false, .int .i64 0, .int .i64 0, .slice none 0 0, .bool false, .bool false, .int .i64 0, .int .i64 0, .slice none 0 0, .bool false] 67)) := fun _ => by kernel_rfl
  have F0 : Fill w 67 [.bool true, .int .i64 0, .int .i64 (-1), .slice none 0 0, .bool false] 3 0 (w.alloc (.cells #[.bool false, .int .i64 0, .int .i64 0, .slice none 0 0, .bool false, .bool false, .int .i64 0, .int .i64 0, .slice none 0 0, .bool false, .bool false, .int .i64 0, .int .i64 0, .slice none 0 0, .bool false] 67)) := fill_start (by rfl)
  have F1 := Lib.hid (F0.next (c := 1) (off := 0) (by simp) (by decide))
  have hsrc : ∀ j v, [.bool true, .int .i64 0, .int .i64 (-1), .slice none 0 0, .bool false][j]? = some v → (w.alloc (.cells #[.bool false, .int .i64 0, .int .i64 0, .slice none 0 0, .bool false, .bool false, .int .i64 0, .int .i64 0, .slice none 0 0, .bool false, .bool false, .int .i64 0, .int .i64 0, .slice none 0 0, .bool false] 67)).cell? ((⟨B, 0, none⟩ : Addr).add j) = some v := by
    intro j v hj
    rw [WideShapes.add_plain, Nat.zero_add, cell_alloc_old hb]
    match j, hj with
    | 0, hj => exact c0.trans hj
    | 1, hj => exact c1.trans hj
    | 2, hj => exact c2.trans hj
    | 3, hj => exact c3.trans hj
    | 4, hj => exact c4.trans hj
  have his := F0.is (c := 1) (off := 0) (by simp) (by decide)
  have hfz := F0.thawed
  clear F0
  go_enter Try.func37, Try.ntmps37
  go_wp2_with fail
  refine (mul_3 _).mono ?_
  rintro e w1 ⟨rfl, rfl⟩
  go_wp2_with (refine wpList_copy_wide (o := ⟨some 33, _, _, _, _, _⟩) rfl (.tmp 31) (.tmp 32) 23 23 rfl 67 5 Try.underlying23 (by kernel_rfl) w.heap.size 0 3 3 ⟨B, 0, none⟩ 1 1 1 (by rfl) (by rfl) [.bool true, .int .i64 0, .int .i64 (-1), .slice none 0 0, .bool false] (by rfl) (by rfl) hsrc his (fun j _ => hfz _) (by simp [Value.oneCell']) ?_)
  obtain ⟨w2, h2⟩ : ∃ w2, (w.alloc (.cells #[.bool false, .int .i64 0, .int .i64 0, .slice none 0 0, .bool false, .bool false, .int .i64 0, .int .i64 0, .slice none 0 0, .bool false, .bool false, .int .i64 0, .int .i64 0, .slice none 0 0, .bool false] 67)).setCells w.heap.size 0 [.bool true, .int .i64 0, .int .i64 (-1), .slice none 0 0, .bool false] = w2 := ⟨_, rfl⟩
  have F2 : Fill w 67 [.bool true, .int .i64 0, .int .i64 (-1), .slice none 0 0, .bool false] 3 1 w2 := h2 ▸ F1.out
  rw [h2]
  clear hmk hsrc his hfz F1 h2
  have W2 : IntKind.i64.wrap 2 = 2 := by decide
  have W3 : IntKind.i64.wrap 3 = 3 := by decide
  go_wp2
  go_loopw [8] (fun v wr => (v = .int .i64 1 ∧ Fill w 67 [.bool true, .int .i64 0, .int .i64 (-1), .slice none 0 0, .bool false] 3 1 wr) ∨ (v = .int .i64 2 ∧ Fill w 67 [.bool true, .int .i64 0, .int .i64 (-1), .slice none 0 0, .bool false] 3 2 wr) ∨ (v = .int .i64 3 ∧ Fill w 67 [.bool true, .int .i64 0, .int .i64 (-1), .slice none 0 0, .bool false] 3 3 wr)) (fun v _ => 3 - (intOf v).toNat)
  case atStart => exact Or.inl ⟨rfl, F2⟩
  case round =>
    clear F2
    rcases hrel with ⟨rfl, F⟩ | ⟨rfl, F⟩ | ⟨rfl, F⟩
    · have Fd := F.drew
      have G := Fd.next (c := 1) (off := 5) (by rfl) (by decide)
      have hsrc := Fd.src (c := 1) (by decide)
      have his := Fd.is (c := 1) (off := 5) (by rfl) (by decide)
      have hfz := Fd.thawed
      obtain ⟨cs, hcs⟩ : ∃ cs, reps [.bool true, .int .i64 0, .int .i64 (-1), .slice none 0 0, .bool false] 1 = cs := ⟨_, rfl⟩
      have hcl : cs.length = 1 * 5 := by rw [← hcs, reps_length]; rfl
      have h1 : ∀ u ∈ cs, u.oneCell' = true := fun u hu => by rw [← hcs] at hu; have hu := reps_mem hu; simp at hu; rcases hu with rfl | rfl | rfl | rfl | rfl <;> rfl
      rw [hcs] at G hsrc his
      clear hcs Fd
      go_wp2
      go_region_law ((refine step_copy_wide (o := ⟨some 45, _, _, _, _, _⟩) rfl (.tmp 41) (.tmp 44) 23 23 rfl 67 5 Try.underlying23 (by kernel_rfl) w.heap.size 5 2 2 ⟨w.heap.size, 0, none⟩ 1 3 1 (by simp [Act.eval, Act.put]) (by simp [Act.eval, Act.put]) cs (by rfl) hcl hsrc his (fun j _ => hfz _) h1 ?_))
      obtain ⟨w3, h3⟩ : ∃ w3, wr.drew.setCells w.heap.size 5 cs = w3 := ⟨_, rfl⟩
      rw [h3] at G ⊢
      clear h3 hsrc his hfz h1 hcl F
      go_simp
      try go_wp2
      go_roundw
      case rel => exact Or.inr (Or.inl ⟨rfl, G⟩)
      case measure => simp [intOf]
    · have Fd := F.drew
      have G := Fd.next (c := 1) (off := 10) (by rfl) (by decide)
      have hsrc := Fd.src (c := 1) (by decide)
      have his := Fd.is (c := 1) (off := 10) (by rfl) (by decide)
      have hfz := Fd.thawed
      obtain ⟨cs, hcs⟩ : ∃ cs, reps [.bool true, .int .i64 0, .int .i64 (-1), .slice none 0 0, .bool false] 1 = cs := ⟨_, rfl⟩
      have hcl : cs.length = 1 * 5 := by rw [← hcs, reps_length]; rfl
      have h1 : ∀ u ∈ cs, u.oneCell' = true := fun u hu => by rw [← hcs] at hu; have hu := reps_mem hu; simp at hu; rcases hu with rfl | rfl | rfl | rfl | rfl <;> rfl
      rw [hcs] at G hsrc his
      clear hcs Fd
      go_wp2
      go_region_law ((refine step_copy_wide (o := ⟨some 45, _, _, _, _, _⟩) rfl (.tmp 41) (.tmp 44) 23 23 rfl 67 5 Try.underlying23 (by kernel_rfl) w.heap.size 10 1 1 ⟨w.heap.size, 0, none⟩ 2 3 1 (by simp [Act.eval, Act.put]) (by simp [Act.eval, Act.put]) cs (by rfl) hcl hsrc his (fun j _ => hfz _) h1 ?_))
      obtain ⟨w3, h3⟩ : ∃ w3, wr.drew.setCells w.heap.size 10 cs = w3 := ⟨_, rfl⟩
      rw [h3] at G ⊢
      clear h3 hsrc his hfz h1 hcl F
      go_simp
      try go_wp2
      go_roundw
      case rel => exact Or.inr (Or.inr (⟨rfl, G⟩))
      case measure => simp [intOf]
    · go_wp2
      go_ret
      exact ⟨rfl, F⟩

set_option maxRecDepth 100000 in
set_option maxHeartbeats 6400000 in
theorem repeatVoter_5 (w : World) (B : Nat) (c0 : w.cell? ⟨B, 0, none⟩ = some (.bool true)) (c1 : w.cell? ⟨B, 1, none⟩ = some (.int .i64 0)) (c2 : w.cell? ⟨B, 2, none⟩ = some (.int .i64 (-1))) (c3 : w.cell? ⟨B, 3, none⟩ = some (.slice none 0 0)) (c4 : w.cell? ⟨B, 4, none⟩ = some (.bool false)) :
    Calls Try.prog 37 #[.slice (some ⟨B, 0, none⟩) 1 1, .int .i64 5] w fun e w' => e = .returned (.slice (some ⟨w.heap.size, 0, none⟩) 5 5) ∧ Fill w 67 [.bool true, .int .i64 0, .int .i64 (-1), .slice none 0 0, .bool false] 5 5 w' := by
  have hb : B < w.heap.size := World.block_lt_of_cell? _ _ c0
  have hmk : ∀ w : World, (Instr.makeSlice 23 (.int .i64 5) (.int .i64 5)).run Try.prog w = .ok (.slice (some ⟨w.heap.size, 0, none⟩) 5 5) (w.alloc (.cells #[.bool false, .int .i64 0, .int .i64 0, .slice none 0 0, .bool false, .bool false, .int .i64 0, .int .i64 0, .slice none 0 0, .bool false, .bool false, .int .i64 0, .int .i64 0, .slice none 0 0, .bool false, .bool false, .int .i64 0, .int .i64 0, .slice none 0 0, .bool false, .bool false, .int .i64 0, .int .i64 0, .slice none 0 0, .bool false] 67)) := fun _ => by kernel_rfl
  have F0 : Fill w 67 [.bool true, .int .i64 0, .int .i64 (-1), .slice none 0 0, .bool false] 5 0 (w.alloc (.cells #[.bool false, .int .i64 0, .int .i64 0, .slice none 0 0, .bool false, .bool false, .int .i64 0, .int .i64 0, .slice none 0 0, .bool false, .bool false, .int .i64 0, .int .i64 0, .slice none 0 0, .bool false, .bool false, .int .i64 0, .int .i64 0, .slice none 0 0, .bool false, .bool false, .int .i64 0, .int .i64 0, .slice none 0 0, .bool false] 67)) := fill_start (by rfl)
  have F1 := Lib.hid (F0.next (c := 1) (off := 0) (by simp) (by decide))
  have hsrc : ∀ j v, [.bool true, .int .i64 0, .int .i64 (-1), .slice none 0 0, .bool false][j]? = some v → (w.alloc (.cells #[.bool false, .int .i64 0, .int .i64 0, .slice none 0 0, .bool false, .bool false, .int .i64 0, .int .i64 0, .slice none 0 0, .bool false, .bool false, .int .i64 0, .int .i64 0, .slice none 0 0, .bool false, .bool false, .int .i64 0, .int .i64 0, .slice none 0 0, .bool false, .bool false, .int .i64 0, .int .i64 0, .slice none 0 0, .bool false] 67)).cell? ((⟨B, 0, none⟩ : Addr).add j) = some v := by
    intro j v hj
    rw [WideShapes.add_plain, Nat.zero_add, cell_alloc_old hb]
    match j, hj with
    | 0, hj => exact c0.trans hj
    | 1, hj => exact c1.trans hj
    | 2, hj => exact c2.trans hj
    | 3, hj => exact c3.trans hj
    | 4, hj => exact c4.trans hj
  have his := F0.is (c := 1) (off := 0) (by simp) (by decide)
  have hfz := F0.thawed
  clear F0
  go_enter Try.func37, Try.ntmps37
  go_wp2_with fail
  refine (mul_5 _).mono ?_
  rintro e w1 ⟨rfl, rfl⟩
  go_wp2_with (refine wpList_copy_wide (o := ⟨some 33, _, _, _, _, _⟩) rfl (.tmp 31) (.tmp 32) 23 23 rfl 67 5 Try.underlying23 (by kernel_rfl) w.heap.size 0 5 5 ⟨B, 0, none⟩ 1 1 1 (by rfl) (by rfl) [.bool true, .int .i64 0, .int .i64 (-1), .slice none 0 0, .bool false] (by rfl) (by rfl) hsrc his (fun j _ => hfz _) (by simp [Value.oneCell']) ?_)
  obtain ⟨w2, h2⟩ : ∃ w2, (w.alloc (.cells #[.bool false, .int .i64 0, .int .i64 0, .slice none 0 0, .bool false, .bool false, .int .i64 0, .int .i64 0, .slice none 0 0, .bool false, .bool false, .int .i64 0, .int .i64 0, .slice none 0 0, .bool false, .bool false, .int .i64 0, .int .i64 0, .slice none 0 0, .bool false, .bool false, .int .i64 0, .int .i64 0, .slice none 0 0, .bool false] 67)).setCells w.heap.size 0 [.bool true, .int .i64 0, .int .i64 (-1), .slice none 0 0, .bool false] = w2 := ⟨_, rfl⟩
  have F2 : Fill w 67 [.bool true, .int .i64 0, .int .i64 (-1), .slice none 0 0, .bool false] 5 1 w2 := h2 ▸ F1.out
  rw [h2]
  clear hmk hsrc his hfz F1 h2
  have W2 : IntKind.i64.wrap 2 = 2 := by decide
  have W4 : IntKind.i64.wrap 4 = 4 := by decide
  have W5 : IntKind.i64.wrap 5 = 5 := by decide
  go_wp2
  go_loopw [8] (fun v wr => (v = .int .i64 1 ∧ Fill w 67 [.bool true, .int .i64 0, .int .i64 (-1), .slice none 0 0, .bool false] 5 1 wr) ∨ (v = .int .i64 2 ∧ Fill w 67 [.bool true, .int .i64 0, .int .i64 (-1), .slice none 0 0, .bool false] 5 2 wr) ∨ (v = .int .i64 4 ∧ Fill w 67 [.bool true, .int .i64 0, .int .i64 (-1), .slice none 0 0, .bool false] 5 4 wr) ∨ (v = .int .i64 5 ∧ Fill w 67 [.bool true, .int .i64 0, .int .i64 (-1), .slice none 0 0, .bool false] 5 5 wr)) (fun v _ => 5 - (intOf v).toNat)
  case atStart => exact Or.inl ⟨rfl, F2⟩
  case round =>
    clear F2
    rcases hrel with ⟨rfl, F⟩ | ⟨rfl, F⟩ | ⟨rfl, F⟩ | ⟨rfl, F⟩
    · have Fd := F.drew
      have G := Fd.next (c := 1) (off := 5) (by rfl) (by decide)
      have hsrc := Fd.src (c := 1) (by decide)
      have his := Fd.is (c := 1) (off := 5) (by rfl) (by decide)
      have hfz := Fd.thawed
      obtain ⟨cs, hcs⟩ : ∃ cs, reps [.bool true, .int .i64 0, .int .i64 (-1), .slice none 0 0, .bool false] 1 = cs := ⟨_, rfl⟩
      have hcl : cs.length = 1 * 5 := by rw [← hcs, reps_length]; rfl
      have h1 : ∀ u ∈ cs, u.oneCell' = true := fun u hu => by rw [← hcs] at hu; have hu := reps_mem hu; simp at hu; rcases hu with rfl | rfl | rfl | rfl | rfl <;> rfl
      rw [hcs] at G hsrc his
      clear hcs Fd
      go_wp2
      go_region_law ((refine step_copy_wide (o := ⟨some 45, _, _, _, _, _⟩) rfl (.tmp 41) (.tmp 44) 23 23 rfl 67 5 Try.underlying23 (by kernel_rfl) w.heap.size 5 4 4 ⟨w.heap.size, 0, none⟩ 1 5 1 (by simp [Act.eval, Act.put]) (by simp [Act.eval, Act.put]) cs (by rfl) hcl hsrc his (fun j _ => hfz _) h1 ?_))
      obtain ⟨w3, h3⟩ : ∃ w3, wr.drew.setCells w.heap.size 5 cs = w3 := ⟨_, rfl⟩
      rw [h3] at G ⊢
      clear h3 hsrc his hfz h1 hcl F
      go_simp
      try go_wp2
      go_roundw
      case rel => exact Or.inr (Or.inl ⟨rfl, G⟩)
      case measure => simp [intOf]
    · have Fd := F.drew
      have G := Fd.next (c := 2) (off := 10) (by rfl) (by decide)
      have hsrc := Fd.src (c := 2) (by decide)
      have his := Fd.is (c := 2) (off := 10) (by rfl) (by decide)
      have hfz := Fd.thawed
      obtain ⟨cs, hcs⟩ : ∃ cs, reps [.bool true, .int .i64 0, .int .i64 (-1), .slice none 0 0, .bool false] 2 = cs := ⟨_, rfl⟩
      have hcl : cs.length = 2 * 5 := by rw [← hcs, reps_length]; rfl
      have h1 : ∀ u ∈ cs, u.oneCell' = true := fun u hu => by rw [← hcs] at hu; have hu := reps_mem hu; simp at hu; rcases hu with rfl | rfl | rfl | rfl | rfl <;> rfl
      rw [hcs] at G hsrc his
      clear hcs Fd
      go_wp2
      go_region_law ((refine step_copy_wide (o := ⟨some 45, _, _, _, _, _⟩) rfl (.tmp 41) (.tmp 44) 23 23 rfl 67 5 Try.underlying23 (by kernel_rfl) w.heap.size 10 3 3 ⟨w.heap.size, 0, none⟩ 2 5 2 (by simp [Act.eval, Act.put]) (by simp [Act.eval, Act.put]) cs (by rfl) hcl hsrc his (fun j _ => hfz _) h1 ?_))
      obtain ⟨w3, h3⟩ : ∃ w3, wr.drew.setCells w.heap.size 10 cs = w3 := ⟨_, rfl⟩
      rw [h3] at G ⊢
      clear h3 hsrc his hfz h1 hcl F
      go_simp
      try go_wp2
      go_roundw
      case rel => exact Or.inr (Or.inr (Or.inl ⟨rfl, G⟩))
      case measure => simp [intOf]
    · have Fd := F.drew
      have G := Fd.next (c := 1) (off := 20) (by rfl) (by decide)
      have hsrc := Fd.src (c := 1) (by decide)
      have his := Fd.is (c := 1) (off := 20) (by rfl) (by decide)
      have hfz := Fd.thawed
      obtain ⟨cs, hcs⟩ : ∃ cs, reps [.bool true, .int .i64 0, .int .i64 (-1), .slice none 0 0, .bool false] 1 = cs := ⟨_, rfl⟩
      have hcl : cs.length = 1 * 5 := by rw [← hcs, reps_length]; rfl
      have h1 : ∀ u ∈ cs, u.oneCell' = true := fun u hu => by rw [← hcs] at hu; have hu := reps_mem hu; simp at hu; rcases hu with rfl | rfl | rfl | rfl | rfl <;> rfl
      rw [hcs] at G hsrc his
      clear hcs Fd
      go_wp2
      go_region_law ((refine step_copy_wide (o := ⟨some 45, _, _, _, _, _⟩) rfl (.tmp 41) (.tmp 44) 23 23 rfl 67 5 Try.underlying23 (by kernel_rfl) w.heap.size 20 1 1 ⟨w.heap.size, 0, none⟩ 4 5 1 (by simp [Act.eval, Act.put]) (by simp [Act.eval, Act.put]) cs (by rfl) hcl hsrc his (fun j _ => hfz _) h1 ?_))
      obtain ⟨w3, h3⟩ : ∃ w3, wr.drew.setCells w.heap.size 20 cs = w3 := ⟨_, rfl⟩
      rw [h3] at G ⊢
      clear h3 hsrc his hfz h1 hcl F
      go_simp
      try go_wp2
      go_roundw
      case rel => exact Or.inr (Or.inr (Or.inr (⟨rfl, G⟩)))
      case measure => simp [intOf]
    · go_wp2
      go_ret
      exact ⟨rfl, F⟩

end Go.Proofs.Ytbkhooklieangaa
