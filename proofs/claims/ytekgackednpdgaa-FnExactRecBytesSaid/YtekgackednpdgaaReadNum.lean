/- ReadNum, both. -/
import Derived.Test.YtekgackednpdgaaSource3
namespace Go.Proofs.Ytekgackednpdgaa
open Go.RowKit

theorem num_unique {l : List UInt8} {n m : Nat} (h : IsNum l n) (k : IsNum l m) : n = m := by
  have hp : numL n <+: numL m ∨ numL m <+: numL n := by
    rcases Nat.le_total (numL n).length (numL m).length with hl | hl
    · exact Or.inl (List.prefix_of_prefix_length_le h.2 k.2 hl)
    · exact Or.inr (List.prefix_of_prefix_length_le k.2 h.2 hl)
  have key : ∀ a b : Nat, numL a <+: numL b → a = b := fun a b hab => by
    obtain ⟨i, z, e, h2, h3⟩ := numL_shape a
    obtain ⟨r, hr⟩ := hab
    have hi : i.length < (numL b).length := by rw [← hr, e]; simp
    have ht : ∀ x ∈ (numL b).take i.length, 128 ≤ x.toNat := by
      intro x hx
      rw [← hr, e] at hx
      simp at hx
      exact h2 x hx
    have hz : (numL b)[i.length].toNat < 128 := by
      have e2 : numL b = i ++ ([z] ++ r) := by rw [← hr, e]; simp
      simp only [e2]
      rw [List.getElem_append_right (Nat.le_refl _)]
      simpa using h3
    have h4 := num_exact (List.prefix_rfl : numL b <+: numL b) ht hi hz
    have h5 : numL a = numL b := by
      have h6 : (numL b).length = i.length + 1 := by
        have := congrArg List.length h4
        rw [List.length_take, Nat.min_eq_left hi] at this
        exact this
      have h7 : r = [] := by
        have := congrArg List.length hr
        rw [e] at this
        simp at this
        exact List.eq_nil_of_length_eq_zero (by omega)
      rw [← hr, h7, List.append_nil]
    rw [← decL_numL a, ← decL_numL b, h5]
  rcases hp with hp | hp
  · exact key _ _ hp
  · exact (key _ _ hp).symm

/-- The number with which bytes begin. -/
noncomputable def numOf (l : List UInt8) : Option Nat := by
  classical
  exact if h : ∃ n, IsNum l n then some (Classical.choose h) else none
theorem numOf_some {l : List UInt8} {n : Nat} (h : IsNum l n) : numOf l = some n := by
  unfold numOf
  have hx : ∃ n, IsNum l n := ⟨n, h⟩
  rw [dif_pos hx]
  exact congrArg some (num_unique (Classical.choose_spec hx) h)
theorem numOf_none {l : List UInt8} (h : ∀ n, ¬ IsNum l n) : numOf l = none := by
  unfold numOf
  rw [dif_neg (fun ⟨n, hn⟩ => h n hn)]

def placeB (B : ByteArray) (at_ most : Int) : Bool := decide ((B.size : Int) ≤ most) && inB at_ 0 B.size

theorem src_new (w : World) (B : ByteArray) (st : Nat) (T : TypeId) : SrcAt (w.alloc (.cells #[.string B, .int .i64 (st : Int), .bool false] T)) w.heap.size B st false :=
  ⟨by simp [go_sem], by simp [go_sem], by simp [go_sem], by simp [go_sem], by simp [go_sem]⟩

/-- What ReadNum returns. -/
noncomputable def readNumR (B : ByteArray) (at_ : Int) : Int × Int × Bool :=
  match placeB B at_ 6000, numOf (B.data.toList.drop at_.toNat) with
  | true, some n => ((n : Int), at_ + (numL n).length, true)
  | _, _ => (0, 0, false)

theorem grown_new {w w' : World} {o : Obj} (k : (w.alloc o).grownBy w' (some w.heap.size)) : Below w.heap.size w w' :=
  (below_new w o).trans (Below.grown (Below.refl _ _) k (by simp) (fun b hb => by injection hb with hb; omega))

end Go.Proofs.Ytekgackednpdgaa
