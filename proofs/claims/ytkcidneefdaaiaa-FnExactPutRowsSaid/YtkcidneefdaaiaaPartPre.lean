/- A row of the call's own cut short; the builtin clear at elements of several cells. Plain lemmas; no program. -/
import Derived.Test.YtkcidneefdaaiaaPartIns
import Derived.Lib.SliceRun
namespace Go.Proofs.Ytkcidneefdaaiaa
open Go.RowKit

theorem own_prefix {w : World} {base : Nat} {e : TypeId} {sz g n cap i : Nat} {cells : List Value} (h : w.ownsRow base e sz (.slice (some ⟨g, 0, none⟩) n cap) n cells) (hi : i ≤ n) : w.ownsRow base e sz (.slice (some ⟨g, 0, none⟩) i cap) i (cells.take (i * sz)) := by
  have hl : cells.length = n * sz := h.1
  have hm : i * sz ≤ n * sz := Nat.mul_le_mul_right _ hi
  refine ⟨by rw [List.length_take]; omega, ?_⟩
  rcases h.2 with ⟨h0, _⟩ | ⟨g', cap', cur, e1, hg, hgb, hc1, hc2, hc3, hc4⟩
  · cases h0
  · injection e1 with e1 e2 e3
    injection e1 with e1
    injection e1 with e1
    subst e1 e3
    refine Or.inr ⟨g, cap, cur, rfl, hg, hgb, by omega, hc2, hc3, ?_⟩
    rw [← hc4, List.take_take, Nat.min_eq_left hm]

section
variable {α : Type} {c : Cod α} {w w2 : World}

theorem PartC.front {base : Nat} {e : TypeId} {g n cap i : Nat} {xs : List α} {cells : List Value} (h : PartC c w base e (.slice (some ⟨g, 0, none⟩) n cap) n xs cells) (hlen : xs.length = n) (hi : i ≤ n) (kg : w.grownBy w2 (some g))
    (ho2 : w2.ownsRow base e c.size (.slice (some ⟨g, 0, none⟩) i cap) i (cells.take (i * c.size))) : PartC c w2 base e (.slice (some ⟨g, 0, none⟩) i cap) i (xs.take i) (cells.take (i * c.size)) := by
  obtain ⟨fs, ho, hl, hf, hr, hmf, hlt, hb⟩ := h
  subst hlen
  have hfold : ∀ b ∈ fs.flatten, w2.heap[b]? = w.heap[b]? := fun b hb' =>
    kg.block b (hlt b hb') (fun e => by injection e with e; subst e; exact hb _ rfl hb')
  have hsub : List.Sublist (fs.take i).flatten fs.flatten := by
    conv => rhs; rw [← List.take_append_drop i fs, List.flatten_append]
    exact List.sublist_append_left _ _
  refine ⟨fs.take i, ho2, by rw [List.length_take]; omega, by rw [List.length_take, List.length_take, hf], ?_, ?_, ?_, ?_⟩
  · intro k hk f hkf
    rw [List.length_take] at hk
    rw [List.getElem?_take_of_lt (by omega)] at hkf
    rw [List.getElem_take]
    refine c.ext (fun q hq => ?_) (c.frame (fun b hb' => hfold b (List.mem_flatten.2 ⟨f, List.mem_of_getElem? hkf, hb'⟩)) (hr k (by omega) f hkf))
    have := idx_lt (show k < i by omega) hq
    rw [List.getElem?_take_of_lt this]
  · exact Mine.frame ⟨hmf.nodup.sublist hsub, fun b hb' => hmf.low b (hsub.subset hb'), fun b hb' => hmf.free b (hsub.subset hb')⟩ fun b hb' => hfold b (hsub.subset hb')
  · exact fun b hb' => Nat.lt_of_lt_of_le (hlt b (hsub.subset hb')) kg.size
  · exact fun b he hb' => hb b he (hsub.subset hb')
end

section
variable {P : Program}
theorem run_clear_wide (w : World) (t e ty : TypeId) (z : Value) (ht : P.underlying t = some (.slice e)) (hv : ∀ w, (zeroValue e).run P w = .ok z w) (b o n c : Nat) (hn : 0 < n) (Z : List Value) (hZ : (Builtin.zeroCells z.cells n).toList = Z) (h1 : ∀ v ∈ Z, v.oneCell' = true)
    (hc : ∀ j, j < Z.length → (w.cell? ⟨b, o + j, none⟩).isSome = true) (hf : ∀ j, j < Z.length → w.frozen? ⟨b, o + j, none⟩ = false) :
    (Builtin.clear_ #[t] ty #[.slice (some ⟨b, o, none⟩) n c]).run P w = .ok (.tuple #[]) (w.setCells b o Z) := by
  have hst := run_storeCells_cells (P := P) b o Z 0 w (by simpa using hc) (by simpa using hf) h1
  simp only [Nat.add_zero] at hst
  obtain ⟨m, rfl⟩ : ∃ m, n = m + 1 := ⟨n - 1, by omega⟩
  simp [Builtin.clear_, run_underlying ht, hv, hZ, hst]
theorem wpList_clear_eq (w : World) {ops : Array Oper} {rest : List Oper} {o : Oper} {a : Act} {Q : Exit → Act → World → Prop} (hgd : o.guard = none) (s : Operand) (t : TypeId)
    (ho : o.op = .call { callee := .builtin .clear, args := #[s], argTypes := #[t] }) (v : Value) (hs : a.eval s = v) {r : Value} {w' : World}
    (hrun : (Builtin.clear_ #[t] o.type #[v]).run P w = .ok r w') (h : wpList P ops Q rest (a.put o.dst r) w') : wpList P ops Q (o :: rest) a w := by
  refine wpList_plain hgd fun K hK' => ?_
  unfold Oper.wp
  simp [execOp, ho, resolve, invoke, builtin, hs, hrun, Result.andThen]
  exact hK' _ _ h
end

theorem zeroCells_mem {z : Array Value} {n : Nat} {v : Value} (h : v ∈ (Builtin.zeroCells z n).toList) : v ∈ z.toList := by
  unfold Builtin.zeroCells at h
  simp only [Array.toList_map, List.mem_map] at h
  obtain ⟨i, hi, rfl⟩ := h
  simp only [Array.toList_range, List.mem_range] at hi
  have hz : 0 < z.size := by
    rcases Nat.eq_zero_or_pos z.size with h0 | h0
    · rw [h0] at hi; simp at hi
    · exact h0
  rw [getElem!_pos z _ (Nat.mod_lt _ hz)]
  exact Array.getElem_mem_toList _

end Go.Proofs.Ytkcidneefdaaiaa
