/- Frames and their writing; a fall: walked. -/
import Derived.Test.YtekgackednpdgaaDisk2
import Derived.Test.YtekgackednpdgaaExtTail
namespace Go.Proofs.Ytekgackednpdgaa
open Go.RowKit

def frameB (s : ByteArray) : ByteArray := numB s.size ++ sealB s
theorem sealB_size (s : ByteArray) : (sealB s).size = s.size + 3 := by unfold sealB; rw [size_append]; rfl
theorem frameB_size (s : ByteArray) : (frameB s).size ≤ 2 * s.size + 4 := by
  unfold frameB; rw [size_append, sealB_size]; have := numB_size s.size; omega

/-- impl.frameBytes -/
theorem frameBytes_any (s : ByteArray) (hs : s.size ≤ 4294967296) (w : World) : Calls Try.prog 89 #[.string s] w fun e w' => e = .returned (.string (frameB s)) ∧ Below w.heap.size w w' := by
  have hz := numB_size s.size
  have hadd := fun W => run_string_add_sum (P := Try.prog) (w := W) (numB s.size) (sealB s) (by rw [sealB_size]; omega)
  have Hc := Lib.hid (numBytes_b s.size (by omega))
  have Hd := Lib.hid (seal_any s (by omega))
  have he : frameB s = numB s.size ++ sealB s := rfl
  rw [he]
  clear he
  go_enter Try.func89, Try.ntmps89
  go_wp2_with (first | (go_at_call 143; refine (Hc.out _).mono ?_; rintro e w1 ⟨rfl, k⟩; have hx := bcell k; have hz := k.size) | (go_at_call 144; refine (Hd.out _).mono ?_; rintro e w1 ⟨rfl, k⟩; have hx := bcell k; have hz := k.size))
  go_ret
  exact ⟨rfl, by (repeat (first | exact Below.refl _ _ | exact below_new _ _ | refine below_setCell ?_ (by first | (simp; done) | (simp; omega) | omega) | refine below_alloc _ ?_ | refine below_drewN ?_ _ | refine below_after (by assumption) ?_ | assumption))⟩

/-- spec.l6Frame -/
theorem l6Frame_any (s : ByteArray) (hs : s.size ≤ 4294967296) (w : World) : Calls Try.prog 85 #[.string s] w fun e w' => e = .returned (.string (frameB s)) ∧ Below w.heap.size w w' := by
  have hz := numB_size s.size
  have hadd := fun W => run_string_add_sum (P := Try.prog) (w := W) (numB s.size) (sealB s) (by rw [sealB_size]; omega)
  have Hc := Lib.hid (l1NumB_b s.size (by omega))
  have Hd := Lib.hid (l1Seal_any s (by omega))
  have he : frameB s = numB s.size ++ sealB s := rfl
  rw [he]
  clear he
  go_enter Try.func85, Try.ntmps85
  go_wp2_with (first | (go_at_call 140; refine (Hc.out _).mono ?_; rintro e w1 ⟨rfl, k⟩; have hx := bcell k; have hz := k.size) | (go_at_call 141; refine (Hd.out _).mono ?_; rintro e w1 ⟨rfl, k⟩; have hx := bcell k; have hz := k.size))
  go_ret
  exact ⟨rfl, by (repeat (first | exact Below.refl _ _ | exact below_new _ _ | refine below_setCell ?_ (by first | (simp; done) | (simp; omega) | omega) | refine below_alloc _ ?_ | refine below_drewN ?_ _ | refine below_after (by assumption) ?_ | assumption))⟩

def frameR (s : ByteArray) : ByteArray × Bool := if s.size ≤ 700 then (frameB s, true) else (⟨#[]⟩, false)

/-- What WriteDisk says. -/
def writeQ (x y s : ByteArray) : Bool := diskB x y && decide (s.size ≤ 700) && diskB x (y ++ frameB s)

end Go.Proofs.Ytekgackednpdgaa
