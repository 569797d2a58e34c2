/- slices.Sort and slices.Compact at texts, in a slice of the call's own. -/
import Derived.Test.YtibgpjkpfakgiaaPlainSet
import Derived.Test.YtibgpjkpfakgiaaRow3
import Derived.Test.YtibgpjkpfakgiaaShelf
namespace Go.Proofs.Ytibgpjkpfakgiaa
open Go.RowKit

/-- A slice of the call's own, of texts: its cells. -/
theorem own_texts {w : World} {base : Nat} {v : Value} {l : List ByteArray} (h : Own Cod.str w base v l) : ∃ p cap, v = .slice p l.length cap ∧ l.length ≤ cap ∧ cap ≤ maxLen ∧
    (0 < l.length → ∃ g o, p = some ⟨g, o, none⟩ ∧ base ≤ g ∧ g < w.heap.size ∧ (∀ o, w.frozen? ⟨g, o, none⟩ = false) ∧ ∀ j (h : j < l.length), w.cell? ⟨g, o + j, none⟩ = some (.string l[j]) ∧ l[j].size ≤ maxLen) := by
  obtain ⟨fp, ⟨a, cap, rfl, h1, h2, _, h4⟩, m⟩ := h
  refine ⟨a, cap, rfl, h1, h2, fun hpos => ?_⟩
  rcases h4 with ⟨rfl, _⟩ | ⟨b, off, fs, rfl, rfl, hb, he⟩
  · simp at hpos
  · refine ⟨b, off, rfl, m.low b List.mem_cons_self, hb, m.free b List.mem_cons_self, fun j hj => ?_⟩
    obtain ⟨f, _, h5, h6, _⟩ := Cod.elems_at _ he j hj
    have h5 : w.cell? ⟨b, off + j * 1 + 0, none⟩ = some (.string l[j]) := h5
    rw [Nat.mul_one, Nat.add_zero] at h5
    exact ⟨h5, h6⟩

theorem texts_own {w : World} {base g o n cap : Nat} {l : List ByteArray} (hn : l.length = n) (h1 : n ≤ cap) (h2 : cap ≤ maxLen) (hb : base ≤ g) (hg : g < w.heap.size) (hf : ∀ o, w.frozen? ⟨g, o, none⟩ = false)
    (hc : ∀ j (h : j < l.length), w.cell? ⟨g, o + j, none⟩ = some (.string l[j]) ∧ l[j].size ≤ maxLen) : Own Cod.str w base (.slice (some ⟨g, o, none⟩) n cap) l := by
  subst hn
  refine ⟨g :: (List.replicate l.length ([] : List Nat)).flatten, ⟨_, cap, rfl, h1, h2, (fun h => by cases h), Or.inr ⟨g, o, _, rfl, rfl, hg, Cod.elems_of _ (by simp) fun j hj f hjf => ?_⟩⟩, ?_⟩
  · have : f = [] := List.eq_of_mem_replicate (List.mem_of_getElem? hjf)
    subst this
    refine ⟨?_, (hc j hj).2, rfl⟩
    show w.cell? ⟨g, o + j * 1 + 0, none⟩ = _
    rw [Nat.mul_one, Nat.add_zero]
    exact (hc j hj).1
  · have hfl : (List.replicate l.length ([] : List Nat)).flatten = [] := List.flatten_eq_nil_iff.2 fun x hx => List.eq_of_mem_replicate hx
    rw [hfl]
    refine ⟨by simp, fun b hb' => ?_, fun b hb' o => ?_⟩ <;> rw [List.mem_singleton] at hb' <;> subst hb'
    · exact hb
    · exact hf o

theorem empty_own {w : World} {base cap : Nat} {p : Option Addr} {l : List ByteArray} (h : Own Cod.str w base (.slice p 0 cap) l) : l = [] := by
  obtain ⟨fp, ⟨a, cap', e, _⟩, _⟩ := h
  injection e with _ e _
  exact List.eq_nil_of_length_eq_zero e.symm

theorem holds_texts {w : World} {g o : Nat} {l : List ByteArray} (hf : ∀ o, w.frozen? ⟨g, o, none⟩ = false) (hc : ∀ j (h : j < l.length), w.cell? ⟨g, o + j, none⟩ = some (.string l[j]) ∧ l[j].size ≤ maxLen) :
    Sort.Holds encStr w g o (strsOf l).toArray := fun j hj => by
  have hj' : j < l.length := by simpa [strsOf] using hj
  refine ⟨?_, hf _⟩
  rw [getElem!_pos _ j hj, (hc j hj').1]
  simp [strsOf, encStr]

theorem below_mapBlock {B g : Nat} {a w : World} (h : Below B a w) (hg : B ≤ g) (f : Array Value → Array Value) : Below B a (Sort.mapBlock w g f) :=
  ⟨h.os, h.tape, h.output, by show _ ≤ (w.heap.modify g _).size; rw [Array.size_modify]; exact h.size, fun i hi => by
    rw [← h.block i hi]
    show (w.heap.modify g _)[i]? = _
    simp [Array.getElem?_modify]
    omega⟩

/-- What sorting makes of texts. -/
def sortL (l : List ByteArray) : List ByteArray := ((strsOf l).mergeSort fun x y => decide (x ≤ y)).map baOf
theorem sortL_mem (l : List ByteArray) : ∀ x ∈ sortL l, x ∈ l := fun x hx => by
  obtain ⟨y, hy, rfl⟩ := List.mem_map.1 hx
  have := (List.mergeSort_perm (strsOf l) fun x y => decide (x ≤ y)).mem_iff.1 hy
  obtain ⟨s, hs, rfl⟩ := List.mem_map.1 this
  exact hs
theorem sortL_length (l : List ByteArray) : (sortL l).length = l.length := by simp [sortL, strsOf, List.length_mergeSort]
theorem strsOf_sortL (l : List ByteArray) : strsOf (sortL l) = (strsOf l).mergeSort fun x y => decide (x ≤ y) := by
  unfold sortL
  generalize (strsOf l).mergeSort (fun x y => decide (x ≤ y)) = ss
  unfold strsOf
  rw [List.map_map]
  conv => rhs; rw [← List.map_id ss]
  rfl

/-- slices.Sort -/
theorem sort_any (v : Value) (l : List ByteArray) (hl : l.length ≤ 1048576) (base : Nat) (w : World) (h : Own Cod.str w base v l) :
    Calls Try.prog 73 #[v] w fun e w' => e = .returned (.tuple #[]) ∧ Own Cod.str w' base v (sortL l) ∧ Below base w w' := by
  obtain ⟨p, cap, rfl, h1, h2, h3⟩ := own_texts h
  rcases Nat.eq_zero_or_pos l.length with h0 | h0
  · rw [h0] at h ⊢
    obtain rfl := empty_own h
    refine (Try.slices_Sort_string_none p cap w).mono ?_
    rintro e w' ⟨rfl, rfl⟩
    exact ⟨rfl, by rw [show sortL [] = [] from by simp [sortL, strsOf]]; exact h, Below.refl _ _⟩
  · obtain ⟨g, o, rfl, hb, hg, hf, hc⟩ := h3 h0
    have hH := holds_texts hf hc
    have key := Try.slices_Sort_string g o cap (strsOf l) w hH hg (by simp [strsOf]; omega)
    rw [show (strsOf l).length = l.length from by simp [strsOf]] at key
    refine key.mono ?_
    rintro e w' ⟨rfl, n, os, rfl⟩
    rw [← strsOf_sortL]
    have hs : (strsOf (sortL l)).toArray.size = (strsOf l).toArray.size := by simp [strsOf, sortL_length]
    have hgr : g < (Sort.putRow encStr (Sort.ahead w n) g o (strsOf (sortL l)).toArray).heap.size := by
      show g < (w.heap.modify g _).size
      rw [Array.size_modify]; exact hg
    refine ⟨rfl, texts_own (sortL_length l) h1 h2 hb (by rw [Sort.size_grow]; omega) (fun x => ?_) (fun j hj => ⟨?_, ?_⟩), ?_⟩
    · rw [Sort.frozen?_grow _ _ _ hgr]
      unfold Sort.putRow
      rw [Sort.frozen?_mapBlock]
      exact hf x
    · rw [Sort.cell?_grow _ _ _ hgr, Sort.cell?_putRow encStr (Sort.ahead w n) g o (strsOf l).toArray _ (Sort.holds_ahead _ _ _ _ _ _ hH) hs j (by simpa [strsOf] using hj), getElem!_pos _ j (by simpa [strsOf] using hj)]
      simp [strsOf, encStr]
    · have hm := sortL_mem l (sortL l)[j] (List.getElem_mem hj)
      obtain ⟨i, hi, e⟩ := List.getElem_of_mem hm
      rw [← e]
      exact (hc i hi).2
    · have h5 : Below base w (Sort.putRow encStr (Sort.ahead w n) g o (strsOf (sortL l)).toArray) := below_mapBlock (a := w) (w := Sort.ahead w n) ⟨rfl, rfl, rfl, Nat.le_refl _, fun _ _ => rfl⟩ hb _
      exact ⟨h5.os, h5.tape, h5.output, by rw [Sort.size_grow]; have := h5.size; omega, fun i hi => by
        by_cases hlt : i < (Sort.putRow encStr (Sort.ahead w n) g o (strsOf (sortL l)).toArray).heap.size
        · rw [Sort.heap_grow_old _ _ hlt]
          exact h5.block i hi
        · omega⟩

/-- slices.Compact -/
theorem compact_any (v : Value) (l : List ByteArray) (hl : l.length ≤ 1048576) (base : Nat) (w : World) (h : Own Cod.str w base v l) :
    Calls Try.prog 74 #[v] w fun e w' => ∃ v', e = .returned v' ∧ Own Cod.str w' base v' ((Lib.compact (strsOf l)).map baOf) ∧ Below base w w' := by
  obtain ⟨p, cap, rfl, h1, h2, h3⟩ := own_texts h
  rcases Nat.eq_zero_or_pos l.length with h0 | h0
  · rw [h0] at h ⊢
    obtain rfl := empty_own h
    refine (Try.slices_Compact_string_empty p cap w).mono ?_
    rintro e w' ⟨rfl, rfl⟩
    exact ⟨_, rfl, by rw [show (Lib.compact (strsOf [])).map baOf = [] from by simp [Lib.compact, strsOf, Lib.compactUpTo]]; exact h, Below.refl _ _⟩
  · obtain ⟨g, o, rfl, hb, hg, hf, hc⟩ := h3 h0
    have hH := holds_texts hf hc
    have hlen : (strsOf l).length = l.length := by simp [strsOf]
    have key := Try.slices_Compact_string g o cap (strsOf l) w hH (by rw [hlen]; omega) (by rw [hlen]; exact h1)
    rw [hlen] at key
    have hle : (Lib.compact (strsOf l)).length ≤ l.length := by
      unfold Lib.compact Lib.compactUpTo
      rw [List.length_map]
      exact Nat.le_trans (List.length_filter_le _ _) (by rw [List.length_range, hlen]; exact Nat.le_refl _)
    have hmem : ∀ x ∈ Lib.compact (strsOf l), x ∈ strsOf l := fun x hx => by
      unfold Lib.compact Lib.compactUpTo at hx
      obtain ⟨j, hj, rfl⟩ := List.mem_map.1 hx
      have hj := List.mem_range.1 (List.mem_filter.1 hj).1
      rw [getElem!_pos _ j (by simpa using hj)]
      simp
    refine key.mono ?_
    rintro e w' ⟨rfl, q, rfl⟩
    generalize Lib.compact (strsOf l) = cs at *
    have hs : (cs ++ List.replicate (l.length - cs.length) []).toArray.size = (strsOf l).toArray.size := by simp [hlen]; omega
    refine ⟨_, rfl, texts_own (by simp) (by omega) h2 hb (by show g < (w.heap.modify g _).size; rw [Array.size_modify]; exact hg) (fun x => ?_) (fun j hj => ⟨?_, ?_⟩), below_mapBlock (a := w) (w := Sort.ahead w q) ⟨rfl, rfl, rfl, Nat.le_refl _, fun _ _ => rfl⟩ hb _⟩
    · unfold Sort.putRow
      rw [Sort.frozen?_mapBlock]
      exact hf x
    · have hj' : j < cs.length := by simpa using hj
      rw [Sort.cell?_putRow encStr (Sort.ahead w q) g o (strsOf l).toArray _ (Sort.holds_ahead _ _ _ _ _ _ hH) hs j (by simp; omega), getElem!_pos _ j (by simp; omega)]
      simp [encStr, baOf, List.getElem_append_left hj']
    · have hj' : j < cs.length := by simpa using hj
      have hm := hmem _ (List.getElem_mem hj')
      unfold strsOf at hm
      obtain ⟨s, hs1, hs2⟩ := List.mem_map.1 hm
      obtain ⟨i, hi, rfl⟩ := List.getElem_of_mem hs1
      rw [List.getElem_map, ← hs2]
      exact (hc i hi).2

theorem setL_sort (l : List ByteArray) : (Lib.compact (strsOf (sortL l))).map baOf = setL l := by rw [strsOf_sortL]; rfl

end Go.Proofs.Ytibgpjkpfakgiaa
