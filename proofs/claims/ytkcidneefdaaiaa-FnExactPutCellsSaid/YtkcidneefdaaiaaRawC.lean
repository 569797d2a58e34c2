/- Rows of raw cells appended; an element with a footprint put into the middle. Plain lemmas. -/
import Derived.Test.YtkcidneefdaaiaaCopyC
import Derived.Maps.AppendAt
namespace Go.Proofs.Ytkcidneefdaaiaa
open Go.RowKit

/-- What a slice of cells brings to an append. -/
def SrcOf (W : World) (src : Value) (m : Nat) (news : List Value) : Prop := (src = .slice none 0 0 ∧ m = 0 ∧ news = []) ∨ ∃ ad c, src = .slice (some ad) m c ∧ news.length = m * 2 ∧ (∀ j u, news[j]? = some u → W.cell? (ad.add j) = some u) ∧ ∀ u ∈ news, u.oneCell' = true
theorem SrcOf.below {W W' : World} {src : Value} {m : Nat} {news : List Value} (h : SrcOf W src m news) (k : Below W.heap.size W W') : SrcOf W' src m news := by
  rcases h with h | ⟨ad, c, h1, h2, h3, h4⟩
  · exact Or.inl h
  · refine Or.inr ⟨ad, c, h1, h2, fun j u hj => ?_, h4⟩
    have hlt : (ad.add j).block < W.heap.size := World.block_lt_of_cell? W _ (h3 j u hj)
    rw [World.cell?_of_block (a := ad.add j) (k.block _ hlt)]
    exact h3 j u hj
theorem src_own {W : World} {base : Nat} {e : TypeId} {v : Value} {n : Nat} {cells : List Value} (h : W.ownsRow base e 2 v n cells) (h1 : ∀ u ∈ cells, u.oneCell' = true) : SrcOf W v n cells := by
  rcases own_forms h with ⟨rfl, h0⟩ | ⟨g, cap, rfl⟩
  · subst h0
    exact Or.inl ⟨rfl, rfl, List.eq_nil_of_length_eq_zero (by have := h.1; omega)⟩
  · exact Or.inr ⟨_, cap, rfl, h.1, fun j u hj => h.cells rfl j u hj, h1⟩
theorem src_take {W : World} {base : Nat} {e : TypeId} {g n cap : Nat} {cells : List Value} (h : W.ownsRow base e 2 (.slice (some ⟨g, 0, none⟩) n cap) n cells) (h1 : ∀ u ∈ cells, u.oneCell' = true) (k : Nat) (hk : k ≤ n) : SrcOf W (.slice (some ⟨g, 0, none⟩) k cap) k (cells.take (k * 2)) := by
  have hl : cells.length = n * 2 := h.1
  refine Or.inr ⟨_, cap, rfl, by rw [List.length_take]; omega, fun j u hj => ?_, fun u hu => h1 u (List.mem_of_mem_take hu)⟩
  rw [List.getElem?_take] at hj
  split at hj
  · exact h.cells rfl j u hj
  · cases hj
theorem src_drop {W : World} {base : Nat} {e : TypeId} {g n cap : Nat} {cells : List Value} (h : W.ownsRow base e 2 (.slice (some ⟨g, 0, none⟩) n cap) n cells) (h1 : ∀ u ∈ cells, u.oneCell' = true) (k : Nat) (hk : k ≤ n) : SrcOf W (.slice (some ⟨g, k * 2, none⟩) (n - k) (cap - k)) (n - k) (cells.drop (k * 2)) := by
  have hl : cells.length = n * 2 := h.1
  refine Or.inr ⟨_, _, rfl, by rw [List.length_drop]; omega, fun j u hj => ?_, fun u hu => h1 u (List.mem_of_mem_drop hu)⟩
  rw [List.getElem?_drop] at hj
  have := h.cells rfl _ _ hj
  rw [WideShapes.add_plain] at this ⊢
  simpa using this
theorem src_end {W : World} {g n : Nat} {cells : List Value} {k : Nat} (hl : cells.length = n * 2) (hk : k = n) : SrcOf W (.slice (some ⟨g, 0, none⟩) 0 0) 0 (cells.drop (k * 2)) := by
  subst hk
  rw [List.drop_of_length_le (by omega)]
  exact Or.inr ⟨_, 0, rfl, rfl, by simp, by simp⟩
theorem src_box {W : World} {B : Nat} {e : TypeId} {a b : Value} (h : W.heap[B]? = some (.cells #[a, b] e (0, 0))) (h1 : ∀ u ∈ [a, b], u.oneCell' = true) : SrcOf W (.slice (some ⟨B, 0, none⟩) 1 1) 1 [a, b] :=
  Or.inr ⟨_, 1, rfl, rfl, fun j u hj => by rw [WideShapes.add_plain]; simp only [World.cell?, h, Nat.zero_add]; simpa using hj, h1⟩

theorem run_append_cells (W : World) (ty : TypeId) (base : Nat) (hbase : base ≤ W.heap.size) {v : Value} {n : Nat} {xs : List Value} (hown : W.ownsRow base 57 2 v n xs) {src : Value} {m : Nat} {news : List Value} (hs : SrcOf W src m news) (hn : n + m ≤ 2097152) :
    ∃ s' w', (Builtin.append_ #[33, 33] ty #[v, src]).run Try.prog W = .ok s' w' ∧ w'.ownsRow base 57 2 s' (n + m) (xs ++ news) ∧ W.grownBy w' v.ownBlock ∧ Below base W w' := by
  obtain ⟨i0, hi, hz0, hz1, hz2⟩ := info_parts Try_infoO_cell
  rcases hs with ⟨rfl, rfl, rfl⟩ | ⟨ad, c, rfl, h2, h3, h4⟩
  · refine ⟨v, W, run_append_owned_none (P := Try.prog) (w := W) base _ ty _ i0 2 Try.underlying33 hi v n xs hown, by simpa using hown, ⟨rfl, rfl, rfl, Nat.le_refl _, fun _ _ _ => rfl⟩, Below.refl _ _⟩
  · obtain ⟨v', w', hrun, ho, hg, _, _⟩ := run_append_own_at (P := Try.prog) W base 33 ty 57 i0 _ 2 40 Try.underlying33 hi hz0 hz1 hz2 rfl (by decide) v n xs hown ad m c news h2 h3 h4 (by unfold maxLen; omega) (by omega) hbase
    exact ⟨v', w', hrun, ho, hg, Below.grown (Below.refl _ _) hg hbase fun j hj => (hown.lt j hj).1⟩

section
variable {α : Type} {c : Cod α} {w w2 : World}
theorem flatten_midF (fs : List (List Nat)) (i : Nat) (f : List Nat) : (fs.take i ++ f :: fs.drop i).flatten.Perm (f ++ fs.flatten) := by
  rw [List.flatten_append, List.flatten_cons]
  conv => rhs; rw [← List.take_append_drop i fs, List.flatten_append]
  rw [← List.append_assoc, ← List.append_assoc]
  exact List.Perm.append_right _ List.perm_append_comm

/-- An element with a footprint of its own put into the middle, the row built anew. -/
theorem PartC.insertF {base : Nat} {e : TypeId} {v v' : Value} {n i : Nat} {xs : List α} {cells cs : List Value} {x : α} {f : List Nat} (h : PartC c w base e v n xs cells) (hlen : xs.length = n) (hi : i ≤ n) (hcl : cs.length = c.size)
    (hrd : c.rd w2 (lst cs) x f) (hm : Mine w2 w.heap.size f) (hbw : base ≤ w.heap.size) (ho2 : w2.ownsRow base e c.size v' (n + 1) (cells.take (i * c.size) ++ (cs ++ cells.drop (i * c.size)))) (kg : Below w.heap.size w w2)
    (hv' : ∀ b, v'.ownBlock = some b → w.heap.size ≤ b ∧ b ∉ f) :
    PartC c w2 base e v' (n + 1) (xs.take i ++ x :: xs.drop i) (cells.take (i * c.size) ++ (cs ++ cells.drop (i * c.size))) := by
  obtain ⟨fs, ho, hl, hf, hr, hmf, hlt, hb⟩ := h
  have hcells : cells.length = n * c.size := ho.1
  have hin : i * c.size ≤ n * c.size := Nat.mul_le_mul_right _ hi
  have htl : (cells.take (i * c.size)).length = i * c.size := by rw [List.length_take]; omega
  subst hlen
  have hfold : ∀ b ∈ fs.flatten, w2.heap[b]? = w.heap[b]? := fun b hb' => kg.block b (hlt b hb')
  have hread : ∀ (k : Nat) (hk : k < xs.length) (f : List Nat), fs[k]? = some f → ∀ (off : Nat), (∀ q, q < c.size → (cells.take (i * c.size) ++ (cs ++ cells.drop (i * c.size)))[off + q]? = cells[k * c.size + q]?) →
      c.rd w2 (fun q => (cells.take (i * c.size) ++ (cs ++ cells.drop (i * c.size)))[off + q]?) xs[k] f := fun k hk f hkf off heq => by
    refine c.ext (fun q hq => (heq q hq).symm) (c.frame (fun b hb' => hfold b ?_) (hr k hk f hkf))
    exact List.mem_flatten.2 ⟨f, List.mem_of_getElem? hkf, hb'⟩
  have hperm := flatten_midF fs i f
  have hmemP : ∀ b, b ∈ (fs.take i ++ f :: fs.drop i).flatten → b ∈ f ∨ b ∈ fs.flatten := fun b hb' => List.mem_append.1 (hperm.mem_iff.1 hb')
  refine ⟨fs.take i ++ f :: fs.drop i, ho2, by simp; omega, by simp; omega, ?_, ⟨?_, fun b hb' => ?_, fun b hb' o => ?_⟩, fun b hb' => ?_, fun b he hb' => ?_⟩
  · intro k hk f' hkf
    have hk' : k < xs.length + 1 := by
      simp only [List.length_append, List.length_take, List.length_cons, List.length_drop] at hk
      omega
    have htx : (xs.take i).length = i := by rw [List.length_take]; omega
    have htf : (fs.take i).length = i := by rw [List.length_take]; omega
    rcases Nat.lt_trichotomy k i with hki | hki | hki
    · rw [List.getElem?_append_left (by omega), List.getElem?_take_of_lt hki] at hkf
      rw [List.getElem_append_left (by omega), List.getElem_take]
      refine hread k (by omega) f' hkf (k * c.size) fun q hq => ?_
      have := idx_lt hki hq
      rw [List.getElem?_append_left (by omega), List.getElem?_take_of_lt this]
    · subst hki
      rw [List.getElem?_append_right (by omega), htf, Nat.sub_self, List.getElem?_cons_zero] at hkf
      injection hkf with hkf
      subst hkf
      rw [List.getElem_append_right (by omega)]
      simp only [htx, Nat.sub_self, List.getElem_cons_zero]
      refine c.ext (fun q hq => ?_) hrd
      rw [List.getElem?_append_right (by omega), htl, List.getElem?_append_left (by omega), Nat.add_sub_cancel_left]
      rfl
    · obtain ⟨d, rfl⟩ : ∃ d, k = i + 1 + d := ⟨k - (i + 1), by omega⟩
      rw [List.getElem?_append_right (by omega), htf, show i + 1 + d - i = d + 1 from by omega, List.getElem?_cons_succ, List.getElem?_drop] at hkf
      have e1 : (xs.take i ++ x :: xs.drop i)[i + 1 + d] = xs[i + d]'(by omega) := by
        rw [List.getElem_append_right (by omega)]
        simp only [htx, show i + 1 + d - i = d + 1 from by omega, List.getElem_cons_succ, List.getElem_drop]
      rw [e1]
      refine hread (i + d) (by omega) f' hkf ((i + 1 + d) * c.size) fun q hq => ?_
      have e2 : (i + 1 + d) * c.size = i * c.size + c.size + d * c.size := by rw [Nat.add_mul, Nat.add_mul, Nat.one_mul]
      have e3 : (i + d) * c.size = i * c.size + d * c.size := by rw [Nat.add_mul]
      rw [e2, e3, List.getElem?_append_right (by omega), htl, List.getElem?_append_right (by omega), List.getElem?_drop, hcl]
      congr 1
      omega
  · refine hperm.nodup_iff.2 (List.nodup_append.2 ⟨hm.nodup, hmf.nodup, fun a ha b hb' e => ?_⟩)
    subst e
    have := hm.low a ha
    have := hlt a hb'
    omega
  · rcases hmemP b hb' with h | h
    · exact Nat.le_trans hbw (hm.low b h)
    · exact hmf.low b h
  · rcases hmemP b hb' with h | h
    · exact hm.free b h o
    · exact (World.frozen?_of_block (a := ⟨b, o, none⟩) (hfold b h)).trans (hmf.free b h o)
  · rcases hmemP b hb' with h | h
    · exact c.old hrd b h
    · exact Nat.lt_of_lt_of_le (hlt b h) kg.size
  · obtain ⟨h1, h2⟩ := hv' b he
    rcases hmemP b hb' with h | h
    · exact h2 h
    · have := hlt b h
      omega
end

/-- The versions of a new cell: one box. -/
theorem rdR_box {w : World} {B : Nat} {e : TypeId} {t : Int} {V : ByteArray} {G : Bool} {x : VerD} (h : w.heap[B]? = some (.cells #[.int .i64 t, .string V, .bool G] e (0, 0))) (hx : ∀ W : World, Cod.ver.rd W (lst [.int .i64 t, .string V, .bool G]) x []) : Cod.rdR Cod.ver w (.slice (some ⟨B, 0, none⟩) 1 1) [x] [B] := by
  refine Or.inr ⟨B, 0, 1, [[]], _, e, rfl, Nat.le_refl _, by unfold maxLen; omega, rfl, h, by show 0 + 1 * 3 ≤ 3; omega, ?_⟩
  refine Cod.elems_of _ rfl fun k hk f hf => ?_
  have : k = 0 := by simpa using hk
  subst this
  simp only [List.getElem?_cons_zero, Option.some.injEq] at hf
  subst hf
  refine Cod.ver.ext (fun i _ => ?_) (hx w)
  show [Value.int .i64 t, .string V, .bool G][i]? = w.cell? ⟨B, 0 + 0 * Cod.ver.size + i, none⟩
  simp [World.cell?, h]

end Go.Proofs.Ytkcidneefdaaiaa
