/- Cells whose versions lie in rows of known room: the versions of one cell laid anew. -/
import Derived.Test.YtkcidneefdaaiaaLogAt
import Derived.Test.YtkcidneefdaaiaaPartIns
namespace Go.Proofs.Ytkcidneefdaaiaa
open Go.RowKit

namespace Cod
/-- A cell, the room of its versions known. -/
def cellR : Cod CellD := Cod.via (Cod.pair (Cod.str) (Cod.sliceR Cod.ver)) (fun x => (x.Key, x.Vers))
end Cod

theorem cellR_weak {w : World} {g : Nat → Option Value} {x : CellD} {f : List Nat} (h : Cod.cellR.rd w g x f) : Cod.cell.rd w g x f := by
  obtain ⟨f1, f2, e, h1, ⟨v, hv, hr⟩⟩ := h
  exact ⟨f1, f2, e, h1, ⟨v, hv, Cod.rdR_rdS hr⟩⟩
theorem own_weakC {w : World} {base : Nat} {v : Value} {xs : List CellD} (h : Own Cod.cellR w base v xs) : Own Cod.cell w base v xs := by
  obtain ⟨fp, h, m⟩ := h
  exact ⟨fp, rdS_weak (c := Cod.cell) (c' := Cod.cellR) rfl cellR_weak h, m⟩
theorem rd_weakC {w : World} {v : Value} {xs : List CellD} (h : Rd Cod.cellR w v xs) : Rd Cod.cell w v xs := by
  obtain ⟨fp, h⟩ := h
  exact ⟨fp, rdS_weak (c := Cod.cell) (c' := Cod.cellR) rfl cellR_weak h⟩

theorem versAt {w : World} {base : Nat} {e : TypeId} {g n cap : Nat} {l : List CellD} {cells : List Value} (h : PartC Cod.cellR w base e (.slice (some ⟨g, 0, none⟩) n cap) n l cells) (k : Nat) (hk : k < l.length) :
    ∃ fp vL, Cod.rdR Cod.ver w vL l[k].Vers fp ∧ Mine w base fp ∧ g ∉ fp ∧ (∀ b ∈ fp, b < w.heap.size) ∧ w.cell? ⟨g, k * 2 + 1, none⟩ = some vL ∧ w.frozen? ⟨g, k * 2 + 1, none⟩ = false ∧
      ∀ w' v' L' fp', Cod.rdR Cod.ver w' v' L' fp' → fp'.Nodup → (∀ b ∈ fp', base ≤ b ∧ (b ∈ fp ∨ w.heap.size ≤ b)) → (∀ b ∈ fp', ∀ i, w'.frozen? ⟨b, i, none⟩ = false) → (∀ b, base ≤ b → b < w.heap.size → b ∉ fp → w'.heap[b]? = w.heap[b]?) →
        w.heap.size ≤ w'.heap.size → PartC Cod.cellR (w'.setCell ⟨g, k * 2 + 1, none⟩ v') base e (.slice (some ⟨g, 0, none⟩) n cap) n (l.set k ⟨l[k].Key, L'⟩) (cells.set (k * 2 + 1) v') := by
  obtain ⟨fs, ho, hl, hf, hr, hmf, hlt, hb⟩ := h
  have hcl : cells.length = n * 2 := ho.1
  have hkf : k < fs.length := by omega
  have hgl := ho.lt g rfl
  have hrk := hr k hk fs[k] (List.getElem?_eq_getElem hkf)
  obtain ⟨f1, f2, e0, ⟨q0, q1, e1⟩, ⟨vL, hv, hR⟩⟩ := hrk
  subst e1
  rw [List.nil_append] at e0
  have hv' : cells[k * 2 + 1]? = some vL := hv
  have q0' : cells[k * 2 + 0]? = some (.string l[k].Key) := q0
  have hki : k * 2 + 1 < n * 2 := by omega
  have hcell : w.cell? ⟨g, k * 2 + 1, none⟩ = some vL := by rw [ho.cellAt (k * 2 + 1) hki]; exact hv'
  have hgn : g ∉ fs.flatten := hb g rfl
  have hin : ∀ d ∈ f2, d ∈ fs.flatten := fun d hd => List.mem_flatten.2 ⟨fs[k], List.getElem_mem hkf, by rw [e0]; exact hd⟩
  have hfk : fs[k]? = some f2 := by rw [List.getElem?_eq_getElem hkf, e0]
  obtain ⟨A, B, hA, _⟩ := flatten_set (f' := f2) hfk
  have hn : (A ++ (f2 ++ B)).Nodup := hA ▸ hmf.nodup
  refine ⟨f2, vL, hR, ⟨(List.nodup_append.1 (List.nodup_append.1 hn).2.1).1, fun d hd => hmf.low d (hin d hd), fun d hd => hmf.free d (hin d hd)⟩, fun hd => hgn (hin g hd), fun d hd => hlt d (hin d hd), hcell, ho.frozenAt _, ?_⟩
  intro w' v' L' fp' hR' hnd hlow hfz hold hsz
  have hfs : ∀ j, j ≠ k → ∀ f3, fs[j]? = some f3 → ∀ d ∈ f3, d ∉ f2 := fun j hj f3 hf3 d hd hd' => by
    obtain ⟨hj1, rfl⟩ := List.getElem?_eq_some_iff.1 hf3
    have hp := (List.pairwise_flatten.1 hmf.nodup).2
    have hd2 : d ∈ fs[k] := by rw [e0]; exact hd'
    rcases Nat.lt_or_gt_of_ne hj with g1 | g1
    · exact (List.pairwise_iff_getElem.1 hp j k hj1 hkf g1) d hd d hd2 rfl
    · exact (List.pairwise_iff_getElem.1 hp k j hkf hj1 g1) d hd2 d hd rfl
  have hgw : w'.heap[g]? = w.heap[g]? := hold g hgl.1 hgl.2 (fun hd => hgn (hin g hd))
  have ho1 : w'.ownsRow base e Cod.cellR.size (.slice (some ⟨g, 0, none⟩) n cap) n cells := by
    refine ⟨ho.1, ?_⟩
    rcases ho.2 with ⟨h0, _⟩ | ⟨g', cap', cur, e1, h1, h2, h3⟩
    · cases h0
    · have eg : g = g' := by injection e1 with e1; injection e1 with e1; injection e1
      subst eg
      exact Or.inr ⟨g, cap', cur, e1, h1, hgw.trans h2, h3⟩
  obtain ⟨ho2, kg⟩ := ho1.stored (k * 2 + 1) v'
  have hoth : ∀ d, d ≠ g → (w'.setCell ⟨g, k * 2 + 1, none⟩ v').heap[d]? = w'.heap[d]? := fun d hd => heap_setCell_other w' ⟨g, k * 2 + 1, none⟩ d v' hd
  have hgp : ∀ d ∈ fp', d ≠ g := fun d hd e => by
    subst e
    rcases (hlow d hd).2 with h | h
    · exact hgn (hin d h)
    · omega
  have hdj : ∀ d ∈ fp', d ∈ f2 ∨ d ∉ A ++ (f2 ++ B) := fun d hd => by
    rcases (hlow d hd).2 with h | h
    · exact Or.inl h
    · refine Or.inr fun hd' => ?_
      rw [← hA] at hd'
      have hd3 : d ∈ fs.flatten := hd'
      have := hlt d hd3
      omega
  obtain ⟨A2, B2, hA2, hB2⟩ := flatten_set (f' := fp') hfk
  have hmem : ∀ d ∈ (fs.set k fp').flatten, d ∈ fp' ∨ (d ∈ fs.flatten ∧ d ∉ f2) := fun d hd => by
    obtain ⟨f3, hf3, hd2⟩ := List.mem_flatten.1 hd
    obtain ⟨j, hj, rfl⟩ := List.mem_iff_getElem.1 hf3
    by_cases e : j = k
    · subst e
      rw [List.getElem_set_self] at hd2
      exact Or.inl hd2
    · rw [List.getElem_set_ne (fun h => e h.symm)] at hd2
      have hj' : j < fs.length := by simpa using hj
      exact Or.inr ⟨List.mem_flatten.2 ⟨_, List.getElem_mem hj', hd2⟩, hfs j e _ (List.getElem?_eq_getElem hj') d hd2⟩
  have hkeep : ∀ d ∈ fs.flatten, d ∉ f2 → (w'.setCell ⟨g, k * 2 + 1, none⟩ v').heap[d]? = w.heap[d]? := fun d hd hd2 =>
    (hoth d (fun e => hgn (e ▸ hd))).trans (hold d (hmf.low d hd) (hlt d hd) hd2)
  refine ⟨fs.set k fp', ho2, by rw [List.length_set]; exact hl, by rw [List.length_set, List.length_set]; exact hf, ?_, ?_, ?_, ?_⟩
  · intro j hj f' hf'
    have hjl : j < l.length := by simpa using hj
    by_cases e : j = k
    · subst e
      rw [List.getElem?_set_self (by omega)] at hf'
      injection hf' with hf'
      subst hf'
      rw [List.getElem_set_self]
      refine ⟨[], fp', rfl, ⟨?_, q1, rfl⟩, ⟨v', ?_, Cod.rdR_frame _ (fun d hd => hoth d (hgp d hd)) hR'⟩⟩
      · show (cells.set (j * 2 + 1) v')[j * 2 + 0]? = _
        rw [List.getElem?_set_ne (by omega)]
        exact q0'
      · show (cells.set (j * 2 + 1) v')[j * 2 + (1 + 0)]? = _
        rw [Nat.add_zero, List.getElem?_set_self (by omega)]
    · rw [List.getElem?_set_ne (fun h => e h.symm)] at hf'
      rw [List.getElem_set_ne (fun h => e h.symm)]
      refine Cod.cellR.ext (fun i hi => ?_) (Cod.cellR.frame (fun d hd => hkeep d (List.mem_flatten.2 ⟨f', List.mem_of_getElem? hf', hd⟩) (hfs j e f' hf' d hd)) (hr j hjl f' hf'))
      have hi2 : i < 2 := hi
      show cells[j * 2 + i]? = (cells.set (k * 2 + 1) v')[j * 2 + i]?
      rw [List.getElem?_set_ne (by omega)]
  · refine ⟨?_, fun d hd => ?_, fun d hd i => ?_⟩
    · rw [hB2]
      exact nodup_swap (hA2 ▸ hmf.nodup) hnd (fun d hd => by
        rcases hdj d hd with h | h
        · exact Or.inl h
        · exact Or.inr (by rw [← hA2, hA]; exact h))
    · rcases hmem d hd with h | h
      · exact (hlow d h).1
      · exact hmf.low d h.1
    · rcases hmem d hd with h | h
      · rw [World.frozen?_setCell]
        exact hfz d h i
      · rw [World.frozen?_of_block (a := ⟨d, i, none⟩) (hkeep d h.1 h.2)]
        exact hmf.free d h.1 i
  · intro d hd
    have hs2 : (w'.setCell ⟨g, k * 2 + 1, none⟩ v').heap.size = w'.heap.size := by simp
    rw [hs2]
    rcases hmem d hd with h | h
    · exact Cod.rdS_old _ (Cod.rdR_rdS hR') d h
    · have := hlt d h.1
      omega
  · intro b he hd
    have hbg : b = g := (Option.some.inj he).symm
    subst hbg
    rcases hmem b hd with h | h
    · exact hgp b h rfl
    · exact hgn h.1

end Go.Proofs.Ytkcidneefdaaiaa
