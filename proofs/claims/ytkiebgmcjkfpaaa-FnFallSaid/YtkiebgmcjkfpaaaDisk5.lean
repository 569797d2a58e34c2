/- spec.WriteDisk: walked. Its first statement draws its order: a call beside a new variable. -/
import Derived.Test.YtkiebgmcjkfpaaaCore
namespace Go.Proofs.Ytkiebgmcjkfpaaa
open Go.RowKit

set_option maxHeartbeats 2000000 in
/-- spec.WriteDisk -/
theorem writeDiskS_any (x y s : ByteArray) (hx : x.size ≤ 1048576) (hy : y.size ≤ 1048576) (hs : s.size ≤ 1048576) (w : World) :
    Calls Try.prog 30 #[.agg #[.string x, .string y], .string s] w fun e w' => e = .returned (.tuple #[.agg #[.string (pickB (writeQ x y s) x), .string (pickB (writeQ x y s) (y ++ frameB s))], .bool (writeQ x y s)]) ∧ Below w.heap.size w w' := by
  have hz := frameB_size s
  have hadd := fun W => run_string_add_sum (P := Try.prog) (w := W) y (frameB s) (by omega)
  have Hc := Lib.hid (goodDiskS_any x y (by omega) (by omega))
  have Hd := Lib.hid (l6Frame_any s (by omega))
  have He := Lib.hid (goodDiskS_any x (y ++ frameB s) (by omega) (by rw [size_append]; omega))
  have hq7 : writeQ x y s = (diskB x y && decide (s.size ≤ 700) && diskB x (y ++ frameB s)) := rfl
  rw [hq7]
  clear hq7
  generalize diskB x y = q at *
  generalize diskB x (y ++ frameB s) = r at *
  generalize frameB s = f at *
  clear hz
  have hq : ∃ t : Bool, Hid (decide (s.size ≤ 700) = t) ∧ ((t = true ∧ s.size ≤ 700) ∨ (t = false ∧ ¬ s.size ≤ 700)) := by
    by_cases h : s.size ≤ 700
    · exact ⟨true, Lib.hid (by simpa using h), Or.inl ⟨rfl, h⟩⟩
    · exact ⟨false, Lib.hid (by simpa using h), Or.inr ⟨rfl, h⟩⟩
  obtain ⟨t, Ht, hq⟩ := hq
  rw [Ht.out]
  go_enter Try.func30, Try.ntmps30
  go_wp2_with fail
  obtain ⟨A, hA⟩ : ∃ A : World, A = (w.alloc (.cells #[.string x, .string y] 51)).alloc (.cells #[.string ⟨#[]⟩, .string ⟨#[]⟩] 51) := ⟨_, rfl⟩
  rw [← hA]
  have c0 : A.cell? ⟨w.heap.size, 0, none⟩ = some (.string x) := by rw [hA]; simp [go_sem]
  have c1 : A.cell? ⟨w.heap.size, 1, none⟩ = some (.string y) := by rw [hA]; simp [go_sem]
  have c2 : A.cell? ⟨w.heap.size + 1, 0, none⟩ = some (.string ⟨#[]⟩) := by rw [hA]; simp [go_sem]
  have c3 : A.cell? ⟨w.heap.size + 1, 1, none⟩ = some (.string ⟨#[]⟩) := by rw [hA]; simp [go_sem]
  have c4 : A.frozen? ⟨w.heap.size + 1, 0, none⟩ = false := by rw [hA]; simp [go_sem]
  have c5 : A.frozen? ⟨w.heap.size + 1, 1, none⟩ = false := by rw [hA]; simp [go_sem]
  have c6 : Below w.heap.size w A := by rw [hA]; exact below_alloc _ (below_new _ _)
  have hw : w.heap.size + 1 < A.heap.size := by rw [hA]; simp
  clear hA
  go_region_held3 (fun w' => w'.cell? ⟨w.heap.size, 0, none⟩ = some (.string x) ∧ w'.cell? ⟨w.heap.size, 1, none⟩ = some (.string y) ∧ Below A.heap.size A w')
    (first
      | (go_split_ands; refine ⟨?_, ?_, below_after (by assumption) (by assumption)⟩ <;> exact cell_step (by assumption) (by assumption))
      | (go_split_ands; refine ⟨?_, ?_, below_alloc _ (by assumption)⟩ <;> exact cell_step (below_new _ _) (by assumption))
      | (refine ⟨cell_step (below_new _ _) (cell_step k2 c0), cell_step (below_new _ _) (cell_step k2 c1), below_alloc _ (below_after k2 (Below.refl _ _).drew)⟩)
      | (go_split_ands; refine ⟨cell_far (cell_far (by assumption) (show A.heap.size ≠ w.heap.size by omega)) (show A.heap.size ≠ w.heap.size by omega), cell_far (cell_far (by assumption) (show A.heap.size ≠ w.heap.size by omega)) (show A.heap.size ≠ w.heap.size by omega), below_setCell (below_setCell (by assumption) (Nat.le_refl _)) (Nat.le_refl _)⟩)
      | (refine ⟨c0, c1, (Below.refl _ _).drew⟩))
    (first | (go_at_call 85; refine (Hd.out _).mono ?_; rintro e w2 ⟨rfl, k2⟩; have hx2 := bcell k2))
  focus
    have dB : Below A.heap.size A (w2.alloc (.cells #[.string x, .string (y ++ f)] 51)) := by go_split_ands; assumption
    have g0 : (w2.alloc (.cells #[.string x, .string (y ++ f)] 51)).cell? ⟨w2.heap.size, 0, none⟩ = some (.string x) := by simp [go_sem]
    have g1 : (w2.alloc (.cells #[.string x, .string (y ++ f)] 51)).cell? ⟨w2.heap.size, 1, none⟩ = some (.string (y ++ f)) := by simp [go_sem]
    have hg : A.heap.size ≤ w2.heap.size := by have := k2.size; simpa using this
    have hgl : w2.heap.size < (w2.alloc (.cells #[.string x, .string (y ++ f)] 51)).heap.size := by simp
    clear k2 hx2
    generalize w2.alloc (.cells #[.string x, .string (y ++ f)] 51) = W1 at *
    generalize w2.heap.size = g at *
  rotate_left
  focus
    have dB : Below A.heap.size A ((w2.setCell ⟨A.heap.size, 0, none⟩ (.string x)).setCell ⟨A.heap.size, 1, none⟩ (.string (y ++ f))) := by go_split_ands; assumption
    have q0 : w2.cell? ⟨A.heap.size, 0, none⟩ = some (.string ⟨#[]⟩) := by rw [hx2.1 _ _ (by simp)]; simp [go_sem]
    have q1 : w2.cell? ⟨A.heap.size, 1, none⟩ = some (.string ⟨#[]⟩) := by rw [hx2.1 _ _ (by simp)]; simp [go_sem]
    have g0 : ((w2.setCell ⟨A.heap.size, 0, none⟩ (.string x)).setCell ⟨A.heap.size, 1, none⟩ (.string (y ++ f))).cell? ⟨A.heap.size, 0, none⟩ = some (.string x) := by simp [go_sem, q0]
    have g1 : ((w2.setCell ⟨A.heap.size, 0, none⟩ (.string x)).setCell ⟨A.heap.size, 1, none⟩ (.string (y ++ f))).cell? ⟨A.heap.size, 1, none⟩ = some (.string (y ++ f)) := by simp [go_sem, q1]
    have hgl : A.heap.size < ((w2.setCell ⟨A.heap.size, 0, none⟩ (.string x)).setCell ⟨A.heap.size, 1, none⟩ (.string (y ++ f))).heap.size := by
      have := k2.size
      simp at this ⊢
      omega
    clear k2 hx2 q0 q1
    generalize ((w2.setCell ⟨A.heap.size, 0, none⟩ (.string x)).setCell ⟨A.heap.size, 1, none⟩ (.string (y ++ f))) = W1 at *
    obtain ⟨g, hg0⟩ : ∃ g, g = A.heap.size := ⟨_, rfl⟩
    have hg : A.heap.size ≤ g := by omega
    rw [← hg0] at g0 g1 hgl
    rw [← hg0]
    clear hg0
  all_goals
    have d0 := cell_step dB c0
    have d1 := cell_step dB c1
    have d2 := cell_step dB c2
    have d3 := cell_step dB c3
    have d4 := frozen_step dB c2 c4
    have d5 := frozen_step dB c3 c5
    have dA : Below w.heap.size w W1 := below_after dB c6
    have l0 : w.heap.size < W1.heap.size := World.block_lt_of_cell? _ _ d0
    have l1 : w.heap.size + 1 < W1.heap.size := World.block_lt_of_cell? _ _ d2
    clear dB c0 c1 c2 c3 c4 c5 c6 hw hg Ht
    rcases hq with ⟨rfl, hs7⟩ | ⟨rfl, hs7⟩ <;> cases q <;> cases r
    all_goals
      go_wp2_with (first | (go_at_call 86; with_reducible refine (Hc.out _).mono ?_; rintro e w3 ⟨rfl, k3⟩; have hx3 := bcell k3) | (go_at_call 86; with_reducible refine (He.out _).mono ?_; rintro e w4 ⟨rfl, k4⟩; have hx4 := bcell (below_after k4 k3)))
      first
        | (refine bodyPost_ret (v := .tuple #[.agg #[.string ⟨#[]⟩, .string ⟨#[]⟩], .bool false]) (by simp [results, Try.results30, go_sem, hx4.1, l1, d2, d3]) rfl ⟨rfl, ?_⟩; refine below_setCell (below_setCell (below_after (below_after k4 k3) dA) (by simp)) (by simp))
        | (refine bodyPost_ret (v := .tuple #[.agg #[.string ⟨#[]⟩, .string ⟨#[]⟩], .bool false]) (by simp [results, Try.results30, go_sem, hx3.1, l1, d2, d3]) rfl ⟨rfl, ?_⟩; refine below_setCell (below_setCell (below_after k3 dA) (by simp)) (by simp))
        | (refine bodyPost_ret (v := .tuple #[.agg #[.string x, .string (y ++ f)], .bool true]) (by simp [results, Try.results30, go_sem, hx4.1, l1, d2, d3]) rfl ⟨rfl, ?_⟩; refine below_setCell (below_setCell (below_after (below_after k4 k3) dA) (by simp)) (by simp))

end Go.Proofs.Ytkiebgmcjkfpaaa
