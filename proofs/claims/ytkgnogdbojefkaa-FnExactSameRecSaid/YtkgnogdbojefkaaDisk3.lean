/- Frames and their writing; a fall: walked. -/
import Derived.Test.YtkgnogdbojefkaaDisk2
import Derived.Test.YtkgnogdbojefkaaExtTail
namespace Go.Proofs.Ytkgnogdbojefkaa
open Go.RowKit

def frameB (s : ByteArray) : ByteArray := numB s.size ++ sealB s
theorem sealB_size (s : ByteArray) : (sealB s).size = s.size + 3 := by unfold sealB; rw [size_append]; rfl
theorem frameB_size (s : ByteArray) : (frameB s).size ≤ 2 * s.size + 4 := by
  unfold frameB; rw [size_append, sealB_size]; have := numB_size s.size; omega

/-- impl.frameBytes -/
theorem frameBytes_any (s : ByteArray) (hs : s.size ≤ 4294967296) (w : World) : Calls Try.prog 126 #[.string s] w fun e w' => e = .returned (.string (frameB s)) ∧ Below w.heap.size w w' := by
  have hz := numB_size s.size
  have hadd := fun W => run_string_add_sum (P := Try.prog) (w := W) (numB s.size) (sealB s) (by rw [sealB_size]; omega)
  have Hc := Lib.hid (numBytes_b s.size (by omega))
  have Hd := Lib.hid (seal_any s (by omega))
  have he : frameB s = numB s.size ++ sealB s := rfl
  rw [he]
  clear he
  go_enter Try.func126, Try.ntmps126
  go_wp2_with (first | (go_at_call 131; refine (Hc.out _).mono ?_; rintro e w1 ⟨rfl, k⟩; have hx := bcell k; have hz := k.size) | (go_at_call 145; refine (Hd.out _).mono ?_; rintro e w1 ⟨rfl, k⟩; have hx := bcell k; have hz := k.size))
  go_ret
  exact ⟨rfl, by (repeat (first | exact Below.refl _ _ | exact below_new _ _ | refine below_setCell ?_ (by first | (simp; done) | (simp; omega) | omega) | refine below_alloc _ ?_ | refine below_drewN ?_ _ | refine below_after (by assumption) ?_ | assumption))⟩

/-- spec.l6Frame -/
theorem l6Frame_any (s : ByteArray) (hs : s.size ≤ 4294967296) (w : World) : Calls Try.prog 127 #[.string s] w fun e w' => e = .returned (.string (frameB s)) ∧ Below w.heap.size w w' := by
  have hz := numB_size s.size
  have hadd := fun W => run_string_add_sum (P := Try.prog) (w := W) (numB s.size) (sealB s) (by rw [sealB_size]; omega)
  have Hc := Lib.hid (l1NumB_b s.size (by omega))
  have Hd := Lib.hid (l1Seal_any s (by omega))
  have he : frameB s = numB s.size ++ sealB s := rfl
  rw [he]
  clear he
  go_enter Try.func127, Try.ntmps127
  go_wp2_with (first | (go_at_call 128; refine (Hc.out _).mono ?_; rintro e w1 ⟨rfl, k⟩; have hx := bcell k; have hz := k.size) | (go_at_call 149; refine (Hd.out _).mono ?_; rintro e w1 ⟨rfl, k⟩; have hx := bcell k; have hz := k.size))
  go_ret
  exact ⟨rfl, by (repeat (first | exact Below.refl _ _ | exact below_new _ _ | refine below_setCell ?_ (by first | (simp; done) | (simp; omega) | omega) | refine below_alloc _ ?_ | refine below_drewN ?_ _ | refine below_after (by assumption) ?_ | assumption))⟩

def frameR (s : ByteArray) : ByteArray × Bool := if s.size ≤ 700 then (frameB s, true) else (⟨#[]⟩, false)

/-- What WriteDisk says. -/
def writeQ (x y s : ByteArray) : Bool := diskB x y && decide (s.size ≤ 700) && diskB x (y ++ frameB s)

/-- impl.WriteDisk -/
theorem writeDisk_any (x y s : ByteArray) (hx : x.size ≤ 1048576) (hy : y.size ≤ 1048576) (hs : s.size ≤ 1048576) (w : World) :
    Calls Try.prog 63 #[.agg #[.string x, .string y], .string s] w fun e w' => e = .returned (.tuple #[.agg #[.string (pickB (writeQ x y s) x), .string (pickB (writeQ x y s) (y ++ frameB s))], .bool (writeQ x y s)]) ∧ Below w.heap.size w w' := by
  have hz := frameB_size s
  have hadd := fun W => run_string_add_sum (P := Try.prog) (w := W) y (frameB s) (by omega)
  have Hc := Lib.hid (goodDisk_any x y (by omega) (by omega))
  have Hd := Lib.hid (frameBytes_any s (by omega))
  have He := Lib.hid (ifDisk_any x (y ++ frameB s) (by omega) (by rw [size_append]; omega))
  unfold writeQ
  generalize diskB x y = q at *
  generalize diskB x (y ++ frameB s) = r at *
  generalize frameB s = f at *
  cases q
  · go_enter Try.func63, Try.ntmps63
    go_wp2_with (go_at_call 124; refine (Hc.out _).mono ?_; rintro e w1 ⟨rfl, k⟩; have hx := bcell k; have hz := k.size)
    refine bodyPost_ret (v := .tuple #[.agg #[.string ⟨#[]⟩, .string ⟨#[]⟩], .bool false]) (by simp [results, Try.results63, go_sem, hx.1]) rfl ⟨rfl, ?_⟩
    (repeat (first | exact Below.refl _ _ | exact below_new _ _ | refine below_setCell ?_ (by first | (simp; done) | (simp; omega) | omega) | refine below_alloc _ ?_ | refine below_drewN ?_ _ | refine below_after (by assumption) ?_ | assumption))
  · by_cases hq : s.size ≤ 700
    · go_enter Try.func63, Try.ntmps63
      go_wp2_with fail
      refine (Hc.out _).mono ?_
      rintro e w1 ⟨rfl, k⟩
      have hx1 := bcell k
      have c0 : w1.cell? ⟨w.heap.size, 0, none⟩ = some (.string x) := by rw [hx1.1 _ _ (by simp; omega)]; simp [go_sem]
      have c1 : w1.cell? ⟨w.heap.size, 1, none⟩ = some (.string y) := by rw [hx1.1 _ _ (by simp; omega)]; simp [go_sem]
      have c2 : w1.cell? ⟨w.heap.size + 1, 0, none⟩ = some (.string ⟨#[]⟩) := by rw [hx1.1 _ _ (by simp)]; simp [go_sem]
      have c3 : w1.cell? ⟨w.heap.size + 1, 1, none⟩ = some (.string ⟨#[]⟩) := by rw [hx1.1 _ _ (by simp)]; simp [go_sem]
      have c4 : w1.frozen? ⟨w.heap.size + 1, 0, none⟩ = false := by rw [hx1.2 _ _ (by simp)]; simp [go_sem]
      have c5 : w1.frozen? ⟨w.heap.size + 1, 1, none⟩ = false := by rw [hx1.2 _ _ (by simp)]; simp [go_sem]
      have c6 : Below w.heap.size w w1 := below_after k (by (repeat (first | exact Below.refl _ _ | exact below_new _ _ | refine below_setCell ?_ (by first | (simp; done) | (simp; omega) | omega) | refine below_alloc _ ?_ | refine below_drewN ?_ _ | refine below_after (by assumption) ?_ | assumption)))
      clear hx1 k
      go_wp2_with fail
      go_region_held3 (fun w' => w'.cell? ⟨w.heap.size, 0, none⟩ = some (.string x) ∧ w'.cell? ⟨w.heap.size, 1, none⟩ = some (.string y) ∧ w'.cell? ⟨w.heap.size + 1, 0, none⟩ = some (valAt w' (w.heap.size + 1) 0) ∧ w'.cell? ⟨w.heap.size + 1, 1, none⟩ = some (valAt w' (w.heap.size + 1) 1) ∧ w'.frozen? ⟨w.heap.size + 1, 0, none⟩ = false ∧ w'.frozen? ⟨w.heap.size + 1, 1, none⟩ = false ∧ Below w.heap.size w w')
        (first
          | (go_split_ands; refine ⟨?_, ?_, ?_, ?_, ?_, ?_, below_after (by assumption) (by assumption)⟩ <;> first | exact has_step (by assumption) (by assumption) | exact cell_step (by assumption) (by assumption) | exact frozen_step (by assumption) (by assumption) (by assumption))
          | (go_split_ands; refine ⟨?_, ?_, ?_, ?_, ?_, ?_, below_setCell (below_setCell (by assumption) (by simp)) (by simp)⟩ <;> first | exact has_set (has_set (by assumption)) | exact cell_far (cell_far (by assumption) (by simp)) (by simp) | exact frozen_set (frozen_set (by assumption)))
          | (refine ⟨c0, c1, has_of c2, has_of c3, c4, c5, below_drew_step c6⟩))
        (first | (go_at_call 126; refine (Hd.out _).mono ?_; rintro e w2 ⟨rfl, k2⟩) | (go_at_call 125; refine (He.out _).mono ?_; rintro e w3 ⟨rfl, k3⟩))
      go_split_ands
      have hr := set2_cells (by assumption) (by assumption)
      go_wp2
      refine bodyPost_ret (v := .tuple #[.agg #[.string (pickB r x), .string (pickB r (y ++ f))], .bool r]) (by simp [results, Try.results63, go_sem, hr.1, hr.2]) rfl ⟨by simp [hq], by assumption⟩
    · go_enter Try.func63, Try.ntmps63
      go_wp2_with (go_at_call 124; refine (Hc.out _).mono ?_; rintro e w1 ⟨rfl, k⟩; have hx := bcell k; have hz := k.size)
      refine bodyPost_ret (v := .tuple #[.agg #[.string ⟨#[]⟩, .string ⟨#[]⟩], .bool false]) (by simp [results, Try.results63, go_sem, hx.1]) rfl ⟨by simp [hq], ?_⟩
      (repeat (first | exact Below.refl _ _ | exact below_new _ _ | refine below_setCell ?_ (by first | (simp; done) | (simp; omega) | omega) | refine below_alloc _ ?_ | refine below_drewN ?_ _ | refine below_after (by assumption) ?_ | assumption))

end Go.Proofs.Ytkgnogdbojefkaa
