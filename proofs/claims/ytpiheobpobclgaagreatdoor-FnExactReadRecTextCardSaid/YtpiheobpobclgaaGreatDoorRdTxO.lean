/- The two rows that were read, apart. Plain lemmas. -/
import Derived.Test.YtpiheobpobclgaaGreatDoorRdTxS0
import Derived.Test.YtpiheobpobclgaaGreatDoorMark2
namespace Go.Proofs.YtpiheobpobclgaaGreatDoor
open Go.RowKit

theorem PartC.ownF {α : Type} {c : Cod α} {w : World} (hfl : Flat c) {base : Nat} {e : TypeId} {v : Value} {n : Nat} {xs : List α} {cells : List Value} (h : PartC c w base e v n xs cells) (hn : xs.length = n) : ∃ fp, Cod.rdS c w v xs fp ∧ Mine w base fp ∧ ∀ b ∈ fp, v.ownBlock = some b := by
  obtain ⟨fs, ho, _, hf, hr, hm, hlt, hb⟩ := h
  have e0 : fs.flatten = [] := by
    rw [List.flatten_eq_nil_iff]
    intro f hmem
    obtain ⟨j, hj, rfl⟩ := List.getElem_of_mem hmem
    exact (hfl (hr j (by omega) fs[j] (List.getElem?_eq_getElem hj)) : fs[j] = [] ∧ c.rd w _ _ [] ∧ _).1
  subst hn
  rcases ho.2 with ⟨rfl, h0⟩ | ⟨g, cap, cur, rfl, hg, hgb, hc1, hc2, _⟩
  · have hx : xs = [] := List.eq_nil_of_length_eq_zero h0
    subst hx
    exact ⟨[], ⟨none, 0, rfl, Nat.le_refl _, Nat.zero_le _, fun _ => rfl, Or.inl ⟨rfl, rfl⟩⟩, Mine.nil _ _, by simp⟩
  · have hgl : g < w.heap.size := (Array.getElem?_eq_some_iff.1 hgb).1
    refine ⟨g :: fs.flatten, ⟨some ⟨g, 0, none⟩, cap, rfl, hc1, hc2, (fun h => by cases h), Or.inr ⟨g, 0, fs, rfl, rfl, hgl, Cod.elems_of c hf fun k hk f hkf => ?_⟩⟩, ?_, fun b hb' => ?_⟩
    · refine c.ext (fun i hi => ?_) (hr k hk f hkf)
      show _ = w.cell? ⟨g, 0 + k * c.size + i, none⟩
      rw [Nat.zero_add, ho.cellAt _ (idx_lt hk hi)]
    · rw [e0]
      exact ⟨by simp, fun b hb' => by rw [List.mem_singleton] at hb'; subst hb'; exact hg, fun b hb' o => by rw [List.mem_singleton] at hb'; subst hb'; exact ho.frozenAt o⟩
    · rw [e0, List.mem_singleton] at hb'
      subst hb'
      rfl
theorem RowsOf.two {w : World} {base : Nat} {vR vW : Value} {R : List ByteArray} {W : List WriteD} (h : RowsOf w base vR vW R W) : Own2 Cod.str Cod.write w base w.heap.size vR vW R W := by
  obtain ⟨l1, l2⟩ := h.lt
  obtain ⟨⟨c1, h1⟩, c2, h2⟩ := h
  have ap := rows_apart h1 h2 (by decide)
  obtain ⟨f1, r1, m1, o1⟩ := h1.ownF flat_str rfl
  obtain ⟨f2, r2, m2, o2⟩ := h2.ownF flat_write rfl
  refine ⟨f1, f2, r1, r2, m1.app m2 fun b hb hb' => ?_, fun d hd => ?_⟩
  · rcases ap with ap | ap
    · rw [o1 b hb] at ap; cases ap
    · exact ap ((o1 b hb).trans (o2 b hb').symm)
  · rcases List.mem_append.1 hd with hd | hd
    · exact l1 d (o1 d hd)
    · exact l2 d (o2 d hd)

end Go.Proofs.YtpiheobpobclgaaGreatDoor
