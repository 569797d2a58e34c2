/- Lists of strings: the older contracts in the words of XRow. -/
import Derived.Test.YtogdbjalgledpaaData
import Derived.Test.YtogdbjalgledpaaKit
namespace Go.Proofs.Ytogdbjalgledpaa
open Go.RowKit

theorem Rd.strRow {w : World} {v : Value} {l : List ByteArray} (h : Rd Cod.str w v l) : StrRow w v l := by
  obtain ⟨p, cap, rfl, _, _, r⟩ := h.form
  refine ⟨p, cap, rfl, fun hl => ?_⟩
  obtain ⟨g, o, rfl, hg, hc⟩ := r hl
  refine ⟨g, o, rfl, hg, fun j hj => ?_⟩
  obtain ⟨f, h1, _⟩ := hc j hj
  rw [show o + j * Cod.str.size = o + j from by rw [show Cod.str.size = 1 from rfl, Nat.mul_one]] at h1
  exact h1

theorem Rd.strLe {w : World} {v : Value} {l : List ByteArray} (h : Rd Cod.str w v l) : l.length ≤ maxLen ∧ ∀ k (h : k < l.length), l[k].size ≤ maxLen := by
  obtain ⟨p, cap, rfl, h1, h2, r⟩ := h.form
  refine ⟨Nat.le_trans h1 h2, fun k hk => ?_⟩
  obtain ⟨g, o, rfl, hg, hc⟩ := r (by omega)
  obtain ⟨f, _, h2, _⟩ := hc k hk
  exact h2

theorem sumSize_sumC (l : List ByteArray) : sumSize l = sumC (fun s => s.size) l := by
  induction l with
  | nil => rfl
  | cons a l ih => rw [sumSize, ih]; simp [sumC]

theorem szStringSR_any (v : Value) (l : List ByteArray) (left : Int) (h0 : 0 ≤ left) (h1 : left ≤ 1048576) (w : World) (h : Rd Cod.str w v l) :
    Calls Try.prog 53 #[v, .int .i64 left] w (SzP (costStringS l) left w) := by
  refine (szStringS_any v l left h0 h1 h.strLe.1 h.strLe.2 w h.strRow).mono ?_
  rintro e w' ⟨rfl, h⟩
  refine ⟨Below.refl _ _, ?_⟩
  unfold costStringS
  rw [← sumSize_sumC]
  rcases h with ⟨rfl, h⟩ | ⟨rfl, h⟩
  · exact Or.inl ⟨ret_int (by omega), by omega⟩
  · exact Or.inr ⟨rfl, by omega⟩

/-- What is owned flat, owned as data. -/
theorem own_strs {w : World} {base : Nat} {e : TypeId} {v : Value} {l : List ByteArray} (hz : ∀ k (h : k < l.length), l[k].size ≤ maxLen) (h : w.ownsRow base e 1 v l.length (l.map Value.string)) : Own Cod.str w base v l := by
  have hc : PartC Cod.str w base e v l.length l (l.map Value.string) := by
    have hfl : (List.replicate l.length ([] : List Nat)).flatten = [] := List.flatten_eq_nil_iff.2 fun x hx => List.eq_of_mem_replicate hx
    refine ⟨List.replicate l.length [], h, Nat.le_refl _, by simp, fun k hk f hf => ?_, ?_, ?_, ?_⟩
    · have : f = [] := List.eq_of_mem_replicate (List.mem_of_getElem? hf)
      subst this
      refine ⟨?_, hz k hk, rfl⟩
      show (l.map Value.string)[k * 1 + 0]? = _
      rw [Nat.mul_one, Nat.add_zero, List.getElem?_map, List.getElem?_eq_getElem hk]
      rfl
    · rw [hfl]; exact Mine.nil _ _
    · rw [hfl]; exact fun b hb => by cases hb
    · rw [hfl]; exact fun b _ hb => by cases hb
  exact hc.own rfl

theorem toStringSR_any (v : Value) (l : List ByteArray) (hl : l.length ≤ 1048576) (w : World) (h : Rd Cod.str w v l) :
    Calls Try.prog 58 #[v] w fun e w' => ∃ v', e = .returned v' ∧ Own Cod.str w' w.heap.size v' l ∧ Below w.heap.size w w' := by
  refine (toStringS_any v l hl w h.strRow).mono ?_
  rintro e w' ⟨v', rfl, o, k⟩
  exact ⟨v', rfl, own_strs h.strLe.2 o, k⟩

theorem eqStringSR_any (v1 v2 : Value) (l : List ByteArray) (w : World) (h1 : Rd Cod.str w v1 l) (h2 : Rd Cod.str w v2 l) (hl : l.length ≤ 1048576) :
    Calls Try.prog 63 #[v1, v2] w fun e w' => e = .returned (.bool true) ∧ Below w.heap.size w w' :=
  eqStringS_same v1 v2 l (by omega) w h1.strRow h2.strRow

end Go.Proofs.Ytogdbjalgledpaa
