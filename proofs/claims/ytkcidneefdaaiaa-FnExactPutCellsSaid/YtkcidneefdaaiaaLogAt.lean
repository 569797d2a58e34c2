/- The log of one replica in a row of the call's own is laid anew. -/
import Derived.Test.YtkcidneefdaaiaaRowd
import Derived.Test.YtkcidneefdaaiaaKit
namespace Go.Proofs.Ytkcidneefdaaiaa
open Go.RowKit

theorem flatten_set {fs : List (List Nat)} {k : Nat} {f f' : List Nat} (h : fs[k]? = some f) : ∃ A B : List Nat, fs.flatten = A ++ (f ++ B) ∧ (fs.set k f').flatten = A ++ (f' ++ B) := by
  obtain ⟨hk, rfl⟩ := List.getElem?_eq_some_iff.1 h
  refine ⟨(fs.take k).flatten, (fs.drop (k + 1)).flatten, ?_, ?_⟩
  · have e : fs = fs.take k ++ fs[k] :: fs.drop (k + 1) := by rw [← List.drop_eq_getElem_cons hk, List.take_append_drop]
    exact (congrArg List.flatten e).trans (by rw [List.flatten_append, List.flatten_cons])
  · rw [List.set_eq_take_append_cons_drop, if_pos hk]
    simp

theorem nodup_swap {A f f' B : List Nat} (h : (A ++ (f ++ B)).Nodup) (h' : f'.Nodup) (hd : ∀ b ∈ f', b ∈ f ∨ b ∉ A ++ (f ++ B)) : (A ++ (f' ++ B)).Nodup := by
  obtain ⟨h1, h2, h3⟩ := List.nodup_append.1 h
  obtain ⟨h4, h5, h6⟩ := List.nodup_append.1 h2
  refine List.nodup_append.2 ⟨h1, List.nodup_append.2 ⟨h', h5, fun a ha b hb e => ?_⟩, fun a ha b hb e => ?_⟩
  · subst e
    rcases hd a ha with g | g
    · exact h6 a g a hb rfl
    · exact g (by simp [hb])
  · subst e
    rcases List.mem_append.1 hb with hb | hb
    · rcases hd a hb with g | g
      · exact h3 a ha a (by simp [g]) rfl
      · exact g (by simp [ha])
    · exact h3 a ha a (by simp [hb]) rfl

theorem elems_set2 {α : Type} {c : Cod α} {w w' : World} {b off : Nat} {xs : List α} {fs : List (List Nat)} (h : Cod.elems c w b off xs fs) (k : Nat) (hk : k < xs.length) (x' : α) (f' : List Nat)
    (hx : c.rd w' (cellsAt w' b (off + k * c.size)) x' f') (hcells : ∀ i, (i < off + k * c.size ∨ off + (k + 1) * c.size ≤ i) → w'.cell? ⟨b, i, none⟩ = w.cell? ⟨b, i, none⟩)
    (hfs : ∀ j, j ≠ k → ∀ f, fs[j]? = some f → ∀ d ∈ f, w'.heap[d]? = w.heap[d]?) : Cod.elems c w' b off (xs.set k x') (fs.set k f') := by
  have hl := Cod.elems_length c h
  refine Cod.elems_of c (by rw [List.length_set, List.length_set]; exact hl) fun j hj f hf => ?_
  have hjl : j < xs.length := by simpa using hj
  by_cases e : j = k
  · subst e
    rw [List.getElem?_set_self (by omega)] at hf
    injection hf with hf
    subst hf
    rw [List.getElem_set_self]
    exact hx
  · rw [List.getElem?_set_ne (fun h => e h.symm)] at hf
    rw [List.getElem_set_ne (fun h => e h.symm)]
    obtain ⟨f2, h1, h2⟩ := Cod.elems_at c h j hjl
    rw [hf] at h1
    injection h1 with h1
    subst h1
    refine c.ext (fun i hi => ?_) (c.frame (hfs j e f hf) h2)
    refine (hcells _ ?_).symm
    rcases Nat.lt_or_gt_of_ne e with g | g
    · have : (j + 1) * c.size ≤ k * c.size := Nat.mul_le_mul_right _ g
      rw [Nat.add_mul] at this
      omega
    · have : (k + 1) * c.size ≤ j * c.size := Nat.mul_le_mul_right _ g
      omega

theorem own_logAt {w : World} {base g o n cap : Nat} {l : List ReplicaD} (h : Own Cod.replicaR w base (.slice (some ⟨g, o, none⟩) n cap) l) (k : Nat) (hk : k < l.length) :
    ∃ fp vL, Cod.rdR Cod.entry w vL l[k].Log fp ∧ Mine w base fp ∧ g ∉ fp ∧ (∀ b ∈ fp, b < w.heap.size) ∧ w.cell? ⟨g, o + k * 3 + 1, none⟩ = some vL ∧ w.frozen? ⟨g, o + k * 3 + 1, none⟩ = false ∧
      ∀ w' v' L' fp', Cod.rdR Cod.entry w' v' L' fp' → fp'.Nodup → (∀ b ∈ fp', base ≤ b ∧ (b ∈ fp ∨ w.heap.size ≤ b)) → (∀ b ∈ fp', ∀ i, w'.frozen? ⟨b, i, none⟩ = false) → (∀ b, base ≤ b → b < w.heap.size → b ∉ fp → w'.heap[b]? = w.heap[b]?) →
        w.heap.size ≤ w'.heap.size → Own Cod.replicaR (w'.setCell ⟨g, o + k * 3 + 1, none⟩ v') base (.slice (some ⟨g, o, none⟩) n cap) (l.set k { l[k] with Log := L' }) := by
  obtain ⟨fp, ⟨a, cap', e, h1, h2, h3, h4⟩, m⟩ := h
  injection e with e1 e2 e3
  subst e1 e2 e3
  rcases h4 with ⟨rfl, _⟩ | ⟨b', off, fs, e, rfl, hb, he⟩
  · simp at hk
  injection e with e
  injection e with e1 e2
  subst e1 e2
  obtain ⟨f, hf, hr⟩ := Cod.elems_at _ he k hk
  obtain ⟨f1, f2, e, ⟨q0, _, e1⟩, f3, f4, e2, ⟨vL, hv, hR⟩, q3⟩ := hr
  obtain ⟨q3, q4, e4⟩ := q3
  subst e1 e4
  rw [List.nil_append] at e
  rw [List.append_nil] at e2
  subst e e2
  have hv' : w.cell? ⟨g, o + k * 3 + (1 + 0), none⟩ = some vL := hv
  have q0' : w.cell? ⟨g, o + k * 3 + 0, none⟩ = some (.bool l[k].Up) := q0
  have q3' : w.cell? ⟨g, o + k * 3 + (1 + (1 + 0)), none⟩ = some (.int .i64 l[k].Sure) := q3
  have hgn : g ∉ fs.flatten := (List.nodup_cons.1 m.nodup).1
  have hin : ∀ d ∈ f, d ∈ fs.flatten := fun d hd => List.mem_flatten.2 ⟨f, List.mem_of_getElem? hf, hd⟩
  obtain ⟨A, B, hA, _⟩ := flatten_set (f' := f) hf
  have hn : (A ++ (f ++ B)).Nodup := hA ▸ (List.nodup_cons.1 m.nodup).2
  refine ⟨f, vL, hR, ⟨(List.nodup_append.1 (List.nodup_append.1 hn).2.1).1, fun d hd => m.low d (by simp [hin d hd]), fun d hd => m.free d (by simp [hin d hd])⟩, fun hd => hgn (hin g hd), Cod.rdS_old _ (Cod.rdR_rdS hR), hv', m.free g (by simp) _, ?_⟩
  intro w' v' L' fp' hR' hnd hlow hfz hold hsz
  have hfs : ∀ j, j ≠ k → ∀ f2, fs[j]? = some f2 → ∀ d ∈ f2, d ∉ f := fun j hj f2 hf2 d hd hd' => by
    obtain ⟨hj1, rfl⟩ := List.getElem?_eq_some_iff.1 hf2
    obtain ⟨hk1, rfl⟩ := List.getElem?_eq_some_iff.1 hf
    have hp := (List.pairwise_flatten.1 (List.nodup_cons.1 m.nodup).2).2
    rcases Nat.lt_or_gt_of_ne hj with g1 | g1
    · exact (List.pairwise_iff_getElem.1 hp j k hj1 hk1 g1) d hd d hd' rfl
    · exact (List.pairwise_iff_getElem.1 hp k j hk1 hj1 g1) d hd' d hd rfl
  have hlt : ∀ d ∈ fs.flatten, d < w.heap.size := fun d hd => by
    obtain ⟨f2, hf2, hd2⟩ := List.mem_flatten.1 hd
    obtain ⟨j, hj, rfl⟩ := List.mem_iff_getElem.1 hf2
    obtain ⟨f3, g1, g2⟩ := Cod.elems_at _ he j (by rw [← Cod.elems_length _ he]; exact hj)
    rw [List.getElem?_eq_getElem hj] at g1
    injection g1 with g1
    subst g1
    exact Cod.replicaR.old g2 d hd2
  have hgw : w'.heap[g]? = w.heap[g]? := hold g (m.low g (by simp)) hb (fun hd => hgn (hin g hd))
  have hcw : ∀ i, w'.cell? ⟨g, i, none⟩ = w.cell? ⟨g, i, none⟩ := fun i => World.cell?_of_block (a := ⟨g, i, none⟩) hgw
  have hoth : ∀ d, d ≠ g → (w'.setCell ⟨g, o + k * 3 + 1, none⟩ v').heap[d]? = w'.heap[d]? := fun d hd => heap_setCell_other w' ⟨g, o + k * 3 + 1, none⟩ d v' hd
  have hgp : ∀ d ∈ fp', d ≠ g := fun d hd e => by
    subst e
    rcases (hlow d hd).2 with h | h
    · exact hgn (hin d h)
    · omega
  have hcs : ∀ i, i ≠ o + k * 3 + 1 → (w'.setCell ⟨g, o + k * 3 + 1, none⟩ v').cell? ⟨g, i, none⟩ = w.cell? ⟨g, i, none⟩ := fun i hi => (World.cell?_setCell_other _ _ _ _ (fun e => hi (congrArg Addr.off e).symm)).trans (hcw i)
  have hdj : ∀ d ∈ fp', d ∈ f ∨ d ∉ A ++ (f ++ B) := fun d hd => by
    rcases (hlow d hd).2 with h | h
    · exact Or.inl h
    · refine Or.inr fun hd' => ?_
      rw [← hA] at hd'
      have := hlt d hd'
      omega
  obtain ⟨A2, B2, hA2, hB2⟩ := flatten_set (f' := fp') hf
  have hmem : ∀ d ∈ (fs.set k fp').flatten, d ∈ fp' ∨ (d ∈ fs.flatten ∧ d ∉ f) := fun d hd => by
    obtain ⟨f2, hf2, hd2⟩ := List.mem_flatten.1 hd
    obtain ⟨j, hj, rfl⟩ := List.mem_iff_getElem.1 hf2
    by_cases e : j = k
    · subst e
      rw [List.getElem_set_self] at hd2
      exact Or.inl hd2
    · rw [List.getElem_set_ne (fun h => e h.symm)] at hd2
      have hj' : j < fs.length := by simpa using hj
      exact Or.inr ⟨List.mem_flatten.2 ⟨_, List.getElem_mem hj', hd2⟩, hfs j e _ (List.getElem?_eq_getElem hj') d hd2⟩
  refine ⟨g :: (fs.set k fp').flatten, ⟨_, cap, by rw [List.length_set], by rw [List.length_set]; exact h1, h2, h3, Or.inr ⟨g, o, fs.set k fp', rfl, rfl, by simp [World.setCell]; omega, elems_set2 he k hk _ fp' ?_ (fun i hi => ?_) (fun j hj f2 hf2 d hd => ?_)⟩⟩, ?_⟩
  · refine ⟨[], fp', rfl, ⟨?_, trivial, rfl⟩, fp', [], (List.append_nil _).symm, ⟨v', ?_, Cod.rdR_frame _ (fun d hd => hoth d (hgp d hd)) hR'⟩, ?_, q4, rfl⟩
    · exact (hcs (o + k * 3 + 0) (by omega)).trans q0'
    · show (w'.setCell ⟨g, o + k * 3 + 1, none⟩ v').cell? ⟨g, o + k * 3 + (1 + 0), none⟩ = some v'
      exact World.cell?_setCell_same _ _ _ ((hcw _).trans hv')
    · exact (hcs (o + k * 3 + (1 + (1 + 0))) (by omega)).trans q3'
  · refine hcs i (fun e => ?_)
    have hs : Cod.replicaR.size = 3 := rfl
    rw [hs, Nat.add_mul] at hi
    omega
  · have hdm : d ∈ fs.flatten := List.mem_flatten.2 ⟨f2, List.mem_of_getElem? hf2, hd⟩
    exact (hoth d (fun e => hgn (e ▸ hdm))).trans (hold d (m.low d (by simp [hdm])) (hlt d hdm) (hfs j hj f2 hf2 d hd))
  · refine ⟨List.nodup_cons.2 ⟨fun hd => ?_, ?_⟩, fun d hd => ?_, fun d hd i => ?_⟩
    · rcases hmem g hd with h | h
      · exact hgp g h rfl
      · exact hgn h.1
    · rw [hB2]
      exact nodup_swap (hA2 ▸ (List.nodup_cons.1 m.nodup).2) hnd (fun d hd => by
        rcases hdj d hd with h | h
        · exact Or.inl h
        · exact Or.inr (by rw [← hA2, hA]; exact h))
    · rcases List.mem_cons.1 hd with rfl | hd
      · exact m.low _ (by simp)
      · rcases hmem d hd with h | h
        · exact (hlow d h).1
        · exact m.low d (by simp [h.1])
    · rw [World.frozen?_setCell]
      rcases List.mem_cons.1 hd with rfl | hd
      · rw [World.frozen?_of_block (a := ⟨d, i, none⟩) hgw]
        exact m.free _ (by simp) i
      · rcases hmem d hd with h | h
        · exact hfz d h i
        · rw [World.frozen?_of_block (a := ⟨d, i, none⟩) (hold d (m.low d (by simp [h.1])) (hlt d h.1) h.2)]
          exact m.free d (by simp [h.1]) i

end Go.Proofs.Ytkcidneefdaaiaa
