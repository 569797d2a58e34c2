/- The readers of encodings (impl.source, spec.l1R): three cells: the bytes, the place, whether it has failed. -/
import Derived.Test.YtekgackednpdgaaBytes2
import Derived.Test.YtekgackednpdgaaPlainNum
import Derived.RegionTactic
import Derived.ChangeAlike
namespace Go.Proofs.Ytekgackednpdgaa
open Go.RowKit

/-- A reader at block g. -/
structure SrcAt (w : World) (g : Nat) (B : ByteArray) (at_ : Nat) (bad : Bool) : Prop where
  c0 : w.cell? ⟨g, 0, none⟩ = some (.string B)
  c1 : w.cell? ⟨g, 1, none⟩ = some (.int .i64 (at_ : Int))
  c2 : w.cell? ⟨g, 2, none⟩ = some (.bool bad)
  f1 : w.frozen? ⟨g, 1, none⟩ = false
  f2 : w.frozen? ⟨g, 2, none⟩ = false

theorem grown_drewN {a w : World} {r : Option Nat} (h : a.grownBy w r) (n : Nat) : a.grownBy (w.drewN n) r := ⟨h.os, h.tape, h.output, h.size, h.block⟩
theorem grown_drew {a w : World} {r : Option Nat} (h : a.grownBy w r) : a.grownBy w.drew r := ⟨h.os, h.tape, h.output, h.size, h.block⟩
theorem grown_set {a w : World} {g : Nat} (h : a.grownBy w (some g)) (o : Nat) (u : Value) : a.grownBy (w.setCell ⟨g, o, none⟩ u) (some g) :=
  ⟨h.os, h.tape, h.output, by simpa [World.setCell] using h.size, fun i hi hne => (Below.heap_setCell w ⟨g, o, none⟩ u i (by rintro rfl; exact hne rfl)).trans (h.block i hi hne)⟩
theorem grown_trans {a b c : World} {r : Option Nat} (h : a.grownBy b r) (k : b.grownBy c r) : a.grownBy c r :=
  ⟨k.os.trans h.os, k.tape.trans h.tape, k.output.trans h.output, Nat.le_trans h.size k.size, fun i hi hne => (k.block i (Nat.lt_of_lt_of_le hi h.size) hne).trans (h.block i hi hne)⟩
theorem grown_below {a b c : World} {r : Option Nat} (h : a.grownBy b r) (k : Below b.heap.size b c) : a.grownBy c r :=
  ⟨k.os.trans h.os, k.tape.trans h.tape, k.output.trans h.output, Nat.le_trans h.size k.size, fun i hi hne => (k.block i (Nat.lt_of_lt_of_le hi h.size)).trans (h.block i hi hne)⟩

theorem SrcAt.of_block {w w' : World} {g at_ : Nat} {B : ByteArray} {bad : Bool} (h : SrcAt w g B at_ bad) (e : w'.heap[g]? = w.heap[g]?) : SrcAt w' g B at_ bad :=
  ⟨(World.cell?_of_block (w := w) (a := ⟨g, 0, none⟩) e).trans h.c0, (World.cell?_of_block (w := w) (a := ⟨g, 1, none⟩) e).trans h.c1, (World.cell?_of_block (w := w) (a := ⟨g, 2, none⟩) e).trans h.c2,
    (World.frozen?_of_block (w := w) (a := ⟨g, 1, none⟩) e).trans h.f1, (World.frozen?_of_block (w := w) (a := ⟨g, 2, none⟩) e).trans h.f2⟩
theorem SrcAt.lt {w : World} {g at_ : Nat} {B : ByteArray} {bad : Bool} (h : SrcAt w g B at_ bad) : g < w.heap.size := World.block_lt_of_cell? _ _ h.c0
theorem SrcAt.below {w w' : World} {g at_ : Nat} {B : ByteArray} {bad : Bool} (h : SrcAt w g B at_ bad) (k : Below w.heap.size w w') : SrcAt w' g B at_ bad := h.of_block (k.block _ h.lt)
theorem SrcAt.drewN {w : World} {g at_ : Nat} {B : ByteArray} {bad : Bool} (h : SrcAt w g B at_ bad) (n : Nat) : SrcAt (w.drewN n) g B at_ bad := h.of_block rfl
theorem SrcAt.drew {w : World} {g at_ : Nat} {B : ByteArray} {bad : Bool} (h : SrcAt w g B at_ bad) : SrcAt w.drew g B at_ bad := h.of_block rfl
theorem SrcAt.setBad {w : World} {g at_ : Nat} {B : ByteArray} {bad : Bool} (h : SrcAt w g B at_ bad) (x : Bool) : SrcAt (w.setCell ⟨g, 2, none⟩ (.bool x)) g B at_ x :=
  ⟨by rw [World.cell?_setCell_other _ _ _ _ (by simp)]; exact h.c0, by rw [World.cell?_setCell_other _ _ _ _ (by simp)]; exact h.c1, World.cell?_setCell_same _ _ _ h.c2, by rw [World.frozen?_setCell]; exact h.f1, by rw [World.frozen?_setCell]; exact h.f2⟩
theorem SrcAt.setAt {w : World} {g at_ : Nat} {B : ByteArray} {bad : Bool} (h : SrcAt w g B at_ bad) (x : Nat) : SrcAt (w.setCell ⟨g, 1, none⟩ (.int .i64 (x : Int))) g B x bad :=
  ⟨by rw [World.cell?_setCell_other _ _ _ _ (by simp)]; exact h.c0, World.cell?_setCell_same _ _ _ h.c1, by rw [World.cell?_setCell_other _ _ _ _ (by simp)]; exact h.c2, by rw [World.frozen?_setCell]; exact h.f1, by rw [World.frozen?_setCell]; exact h.f2⟩

/-- impl.source.fail -/
theorem fail_any (w : World) (g at_ : Nat) (B : ByteArray) (bad : Bool) (h : SrcAt w g B at_ bad) :
    Calls Try.prog 196 #[.pointer (some ⟨g, 0, none⟩)] w fun e w' => e = .returned (.tuple #[]) ∧ SrcAt w' g B at_ true ∧ w.grownBy w' (some g) := by
  obtain ⟨c0, c1, c2, f1, f2⟩ := h
  have H : SrcAt w g B at_ bad := ⟨c0, c1, c2, f1, f2⟩
  go_enter Try.func196, Try.ntmps196
  go_wp2
  go_end0
  exact ⟨rfl, H.setBad true, grown_set (World.grownBy.refl _ _) _ _⟩

/-- impl.source.take where there are bytes enough -/
theorem take_yes (w : World) (g at_ n : Nat) (B : ByteArray) (h : SrcAt w g B at_ false) (hn : at_ + n ≤ B.size) (hB : B.size ≤ 1048576) :
    Calls Try.prog 182 #[.pointer (some ⟨g, 0, none⟩), .int .i64 (n : Int)] w fun e w' => e = .returned (.string (B.extract at_ (at_ + n))) ∧ SrcAt w' g B (at_ + n) false ∧ w.grownBy w' (some g) := by
  obtain ⟨c0, c1, c2, f1, f2⟩ := h
  have H : SrcAt w g B at_ false := ⟨c0, c1, c2, f1, f2⟩
  have hn1 : (n : Int) ≤ (B.size : Int) - (at_ : Int) := by omega
  have hB1 : (B.size : Int) ≤ 1048576 := by omega
  go_enter Try.func182, Try.ntmps182
  go_wp2
  go_quiet (fail)
  go_wp2
  go_region
  go_wp2
  go_ret
  rw [show ((at_ : Int) + n) = ((at_ + n : Nat) : Int) from by omega]
  exact ⟨rfl, ((H.drewN nq).setAt _).drew, grown_drew (grown_set (grown_drewN (World.grownBy.refl _ _) _) _ _)⟩

/-- impl.source.take where there are too few, or it has failed -/
theorem take_no (w : World) (g at_ n : Nat) (B : ByteArray) (bad : Bool) (h : SrcAt w g B at_ bad) (hn : bad = true ∨ (at_ ≤ B.size ∧ B.size < at_ + n)) (hB : B.size ≤ 1048576) (ha : at_ ≤ 1048576) :
    Calls Try.prog 182 #[.pointer (some ⟨g, 0, none⟩), .int .i64 (n : Int)] w fun e w' => e = .returned (.string ⟨#[]⟩) ∧ SrcAt w' g B at_ true ∧ w.grownBy w' (some g) := by
  obtain ⟨c0, c1, c2, f1, f2⟩ := h
  have H : SrcAt w g B at_ bad := ⟨c0, c1, c2, f1, f2⟩
  have hB1 : (B.size : Int) ≤ 1048576 := by omega
  cases bad
  · have hn2 : (B.size : Int) - (at_ : Int) < (n : Int) := by simp at hn; omega
    clear hn
    go_enter Try.func182, Try.ntmps182
    go_wp2
    go_quiet (fail)
    go_wp2_with fail
    refine (fail_any _ g at_ B false (H.drewN nq)).mono ?_
    rintro e w1 ⟨rfl, h1, k1⟩
    go_wp2
    go_ret
    exact ⟨rfl, h1, grown_trans (grown_drewN (World.grownBy.refl _ _) _) k1⟩
  · clear hn
    go_enter Try.func182, Try.ntmps182
    go_wp2
    go_quiet (fail)
    go_wp2_with fail
    refine (fail_any _ g at_ B true (H.drewN nq)).mono ?_
    rintro e w1 ⟨rfl, h1, k1⟩
    go_wp2
    go_ret
    exact ⟨rfl, h1, grown_trans (grown_drewN (World.grownBy.refl _ _) _) k1⟩

/-- spec.l1R.one where there is a byte -/
theorem one_yes (w : World) (g at_ : Nat) (B : ByteArray) (h : SrcAt w g B at_ false) (hn : at_ < B.size) (hB : B.size ≤ 1048576) :
    Calls Try.prog 195 #[.pointer (some ⟨g, 0, none⟩)] w fun e w' => e = .returned (.int .i64 (B[at_].toNat : Int)) ∧ SrcAt w' g B (at_ + 1) false ∧ w.grownBy w' (some g) := by
  obtain ⟨c0, c1, c2, f1, f2⟩ := h
  have H : SrcAt w g B at_ false := ⟨c0, c1, c2, f1, f2⟩
  have hB1 : (B.size : Int) ≤ 1048576 := by omega
  have hn1 : (at_ : Int) < (B.size : Int) := by omega
  have hcb : (B[at_].toNat : Int) ≤ 255 := by have := B[at_].toNat_lt; omega
  go_enter Try.func195, Try.ntmps195
  go_wp2
  go_quiet (fail)
  go_wp2
  go_region
  go_wp2
  go_ret
  rw [show ((at_ : Int) + 1) = ((at_ + 1 : Nat) : Int) from by omega]
  exact ⟨rfl, ((H.drewN nq).setAt _).drew, grown_drew (grown_set (grown_drewN (World.grownBy.refl _ _) _) _ _)⟩

/-- spec.l1R.one where there is none, or it has failed -/
theorem one_no (w : World) (g at_ : Nat) (B : ByteArray) (bad : Bool) (h : SrcAt w g B at_ bad) (hn : bad = true ∨ B.size ≤ at_) (hB : B.size ≤ 1048576) (ha : at_ ≤ 1048576) :
    Calls Try.prog 195 #[.pointer (some ⟨g, 0, none⟩)] w fun e w' => e = .returned (.int .i64 0) ∧ SrcAt w' g B at_ true ∧ w.grownBy w' (some g) := by
  obtain ⟨c0, c1, c2, f1, f2⟩ := h
  have H : SrcAt w g B at_ bad := ⟨c0, c1, c2, f1, f2⟩
  have hB1 : (B.size : Int) ≤ 1048576 := by omega
  cases bad
  · have hn2 : (B.size : Int) ≤ (at_ : Int) := by simp at hn; omega
    clear hn
    go_enter Try.func195, Try.ntmps195
    go_wp2
    go_quiet (fail)
    go_wp2
    go_ret
    exact ⟨rfl, (H.drewN nq).setBad true, grown_set (grown_drewN (World.grownBy.refl _ _) _) _ _⟩
  · clear hn
    go_enter Try.func195, Try.ntmps195
    go_wp2
    go_quiet (fail)
    go_wp2
    go_ret
    exact ⟨rfl, (H.drewN nq).setBad true, grown_set (grown_drewN (World.grownBy.refl _ _) _) _ _⟩

end Go.Proofs.Ytekgackednpdgaa
