/- Parts of a slice that came in. Plain lemmas; no program. -/
import Derived.Test.YtogdbjalgledpaaKit
namespace Go.Proofs.Ytogdbjalgledpaa
open Go.RowKit

theorem Rd.take {α : Type} {c : Cod α} {w : World} {p : Option Addr} {n cap : Nat} {l : List α} (h : Rd c w (.slice p n cap) l) (k : Nat) (hk : k ≤ l.length) : Rd c w (.slice p k cap) (l.take k) := by
  obtain ⟨fp, a, cap', e, h1, h2, h3, h4⟩ := h
  injection e with e1 e2 e3
  subst e1 e2 e3
  have hl : (l.take k).length = k := by rw [List.length_take]; omega
  rcases h4 with ⟨rfl, rfl⟩ | ⟨b, off, fs, rfl, rfl, hb, he⟩
  · refine ⟨[], p, cap, by rw [hl], by simp, h2, h3, Or.inl ⟨by simp, rfl⟩⟩
  · refine ⟨b :: (fs.take k).flatten, _, cap, by rw [hl], by omega, h2, h3, Or.inr ⟨b, off, fs.take k, rfl, rfl, hb, Cod.elems_of c ?_ fun j hj f hf => ?_⟩⟩
    · rw [List.length_take, List.length_take, Cod.elems_length c he]
    · rw [hl] at hj
      obtain ⟨f', hf', hr⟩ := Cod.elems_at c he j (by omega)
      rw [List.getElem?_take_of_lt hj, hf'] at hf
      injection hf with hf
      subst hf
      rw [List.getElem_take]
      exact hr

theorem Rd.len {α : Type} {c : Cod α} {w : World} {p : Option Addr} {n cap : Nat} {l : List α} (h : Rd c w (.slice p n cap) l) : l.length = n := by
  obtain ⟨fp, a, cap', e, _⟩ := h
  injection e with _ e2 _
  exact e2.symm

theorem Rd.dropLe {α : Type} {c : Cod α} {w : World} {g o n cap : Nat} {l : List α} (h : Rd c w (.slice (some ⟨g, o, none⟩) n cap) l) (k : Nat) (hk : k ≤ l.length) :
    Rd c w (.slice (some ⟨g, o + k * c.size, none⟩) (n - k) (cap - k)) (l.drop k) := by
  obtain ⟨fp, a, cap', e, h1, h2, h3, h4⟩ := h
  injection e with e1 e2 e3
  subst e1 e2 e3
  have hl : (l.drop k).length = l.length - k := by rw [List.length_drop]
  rcases h4 with ⟨rfl, rfl⟩ | ⟨b, off, fs, e, rfl, hb, he⟩
  · exact ⟨[], _, cap - k, by rw [hl], by simp, by omega, (fun h => by cases h), Or.inl ⟨by simp, rfl⟩⟩
  · injection e with e
    injection e with e1 e2
    subst e1 e2
    refine ⟨g :: (fs.drop k).flatten, _, cap - k, by rw [hl], by omega, by omega, (fun h => by cases h), Or.inr ⟨g, o + k * c.size, fs.drop k, rfl, rfl, hb, Cod.elems_of c ?_ fun j hj f hf => ?_⟩⟩
    · rw [List.length_drop, List.length_drop, Cod.elems_length c he]
    · rw [hl] at hj
      obtain ⟨f', hf', hr⟩ := Cod.elems_at c he (k + j) (by omega)
      rw [List.getElem?_drop, hf'] at hf
      injection hf with hf
      subst hf
      rw [List.getElem_drop]
      rw [show o + k * c.size + j * c.size = o + (k + j) * c.size from by rw [Nat.add_mul]; omega]
      exact hr

theorem Rd.drop_end {α : Type} {c : Cod α} {w : World} {p : Option Addr} {cap : Nat} (hp : p = none → cap = 0) (hc : cap ≤ maxLen) : Rd c w (.slice p 0 cap) [] :=
  ⟨[], p, cap, rfl, Nat.zero_le _, hc, hp, Or.inl ⟨rfl, rfl⟩⟩

end Go.Proofs.Ytogdbjalgledpaa
