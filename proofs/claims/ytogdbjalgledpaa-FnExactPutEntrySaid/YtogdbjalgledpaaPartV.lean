/- A row that is being built, or nothing yet in a slice without room. Plain lemmas over any program. -/
import Derived.Test.YtogdbjalgledpaaStep
import Derived.Test.YtogdbjalgledpaaRoom
import Derived.Deep.RegionLawGrows
namespace Go.Proofs.Ytogdbjalgledpaa
open Go.RowKit

theorem ownsRow_le {w : World} {base base' size n : Nat} {e : TypeId} {v : Value} {xs : List Value} (h : w.ownsRow base e size v n xs) (hb : base' ≤ base) : w.ownsRow base' e size v n xs := by
  refine ⟨h.1, ?_⟩
  rcases h.2 with h0 | ⟨g, cap, cur, hv, hg, hr⟩
  · exact Or.inl h0
  · exact Or.inr ⟨g, cap, cur, hv, Nat.le_trans hb hg, hr⟩

section
variable {α : Type} {c : Cod α} {w w' : World}

theorem PartC.keep {base : Nat} {e : TypeId} {v : Value} {n : Nat} {xs : List α} {cells : List Value} (h : PartC c w base e v n xs cells) (k : Keep base w w') : PartC c w' base e v n xs cells := by
  obtain ⟨fs, ho, hl, hf, hr, hm, hlt, hb⟩ := h
  have hin : ∀ (j : Nat) (f : List Nat), fs[j]? = some f → ∀ b ∈ f, b ∈ fs.flatten := fun j f hf b hb => List.mem_flatten.2 ⟨f, List.mem_of_getElem? hf, hb⟩
  refine ⟨fs, ⟨ho.1, ?_⟩, hl, hf, fun j hj f hf => c.frame (fun b hb => k.block b (hm.low b (hin j f hf b hb)) (hlt b (hin j f hf b hb))) (hr j hj f hf), hm.frame (fun b hb => k.block b (hm.low b hb) (hlt b hb)), fun b hb => Nat.lt_of_lt_of_le (hlt b hb) k.size, hb⟩
  rcases ho.2 with h0 | ⟨g, cap, cur, hv, hg, hgb, rest⟩
  · exact Or.inl h0
  · exact Or.inr ⟨g, cap, cur, hv, hg, (k.block g hg (Array.getElem?_eq_some_iff.1 hgb).1).trans hgb, rest⟩

theorem PartC.row_lt {base : Nat} {e : TypeId} {v : Value} {n : Nat} {xs : List α} {cells : List Value} (h : PartC c w base e v n xs cells) : ∀ b, v.ownBlock = some b → b < w.heap.size := fun b hb => by
  obtain ⟨fs, ho, _⟩ := h
  exact (ho.lt b hb).2

def PartV (c : Cod α) (w : World) (base : Nat) (e : TypeId) (v : Value) (n : Nat) (xs : List α) : Prop := (∃ p, v = .slice p 0 0 ∧ n = 0 ∧ xs = []) ∨ Part c w base e v n xs

theorem PartV.keep {base : Nat} {e : TypeId} {v : Value} {n : Nat} {xs : List α} (h : PartV c w base e v n xs) (k : Keep base w w') : PartV c w' base e v n xs := by
  rcases h with h | ⟨cells, h⟩
  · exact Or.inl h
  · exact Or.inr ⟨cells, h.keep k⟩
theorem PartV.below {base : Nat} {e : TypeId} {v : Value} {n : Nat} {xs : List α} (h : PartV c w base e v n xs) (k : Below w.heap.size w w') : PartV c w' base e v n xs := by
  rcases h with h | h
  · exact Or.inl h
  · exact Or.inr (h.below k)
theorem PartV.own {base : Nat} {e : TypeId} {v : Value} {n : Nat} {xs : List α} (h : PartV c w base e v n xs) (hn : xs.length = n) : Own c w base v xs := by
  rcases h with ⟨p, rfl, rfl, rfl⟩ | h
  · exact ⟨[], ⟨p, 0, rfl, Nat.le_refl _, Nat.zero_le _, fun _ => rfl, Or.inl ⟨rfl, rfl⟩⟩, Mine.nil _ _⟩
  · exact h.own hn
end

section
variable {P : Program} {ops : Array Oper} {o : Oper} {a : Act} {Q : Exit → Act → World → Prop} {α : Type} {c : Cod α}

theorem step_append_keep {K : Act → World → Prop} {E : Prop} (Wp : World) (hgd : o.guard = none) (s x : Operand) (t : TypeId) (ho : o.op = .call { callee := .builtin .append, args := #[s, x], argTypes := #[t, t] })
    (base : Nat) (e e' : TypeId) (i : TypeInfo) (z : Value) (bytes : Nat) (ht : P.underlying t = some (.slice e)) (hi : P.info? e = some i) (hz : i.zero = some z)
    (hsize : i.size = c.size) (hby : i.bytes = bytes) (hzs : z.cells.size = c.size) (hsz : 0 < c.size) (hbp : 0 < bytes)
    (w0 : World) (v : Value) (n : Nat) (xs : List α) (cells : List Value) (hs : a.eval s = v) (hp : PartC c w0 base e v n xs cells) (hlen : xs.length = n) (k : Below w0.heap.size w0 Wp)
    (y : α) (f : List Nat) (cs : List Value) (hcl : cs.length = c.size) (hrd : c.rd Wp (lst cs) y f) (hm : Mine Wp w0.heap.size f)
    (H : Nat) (hH : Wp.heap.size = H) (hx : a.eval x = .slice (some ⟨H, 0, none⟩) 1 1) (h1 : ∀ u ∈ cs, u.oneCell' = true)
    (hbytes : (n + 1) * bytes ≤ room) (hbase : base ≤ w0.heap.size)
    (h : ∀ g cap w', Part c w' base e (.slice (some ⟨g, 0, none⟩) (n + 1) cap) (n + 1) (xs ++ [y]) → Below base Wp w' → Keep w0.heap.size (Wp.alloc (.cells cs.toArray e')) w' → K (a.put o.dst (.slice (some ⟨g, 0, none⟩) (n + 1) cap)) w') :
    if Region.wanted o (yielded ops a.tmps) = true then Oper.wp P o a (Wp.alloc (.cells cs.toArray e')) K Q else E := by
  subst hH
  obtain ⟨fs, hown, _⟩ := id (hp.below k)
  refine step_append_lies _ hgd s x t ho base e i z c.size bytes ht hi hz hsize hby hzs hsz v n cells hs (hown.alloc _) ⟨Wp.heap.size, 0, none⟩ 1 1 cs hx (by omega) ?_ h1 (by decide) ?_ hbytes (by have := k.size; simp; omega) _ rfl ?_
  · intro j u hj
    rw [WideShapes.add_plain, Nat.zero_add, World.cell?_alloc_mark]
    simpa using hj
  · have h2 : (n + 1) * 1 ≤ (n + 1) * bytes := Nat.mul_le_mul_left _ hbp
    have h3 : (n + 1) * bytes ≤ room := hbytes
    unfold room at h3
    unfold maxLen
    omega
  · intro g cap w' hown' hg hat _
    have k2 : Below w0.heap.size w0 (Wp.alloc (.cells cs.toArray e')) := below_alloc _ k
    have hrd2 : c.rd (Wp.alloc (.cells cs.toArray e')) (lst cs) y f := c.frame (fun b hb => Below.heap_alloc _ _ _ (c.old hrd b hb)) hrd
    have hm2 : Mine (Wp.alloc (.cells cs.toArray e')) w0.heap.size f := hm.frame fun b hb => Below.heap_alloc _ _ _ (c.old hrd b hb)
    refine h g cap w' (hp.snoc k2 hrd2 hm2 hlen hown' hg rfl ?_ hbase) ?_ ⟨hg.size, fun b h1 h2 => hg.block b h2 (fun e => by have := (hown.lt b e.symm).2; have := (hp.row_lt b e.symm); omega)⟩
    · rcases hat with hat | hat
      · exact Or.inl hat
      · exact Or.inr (Nat.le_of_eq hat.symm)
    · have hg' : Wp.grownBy w' v.ownBlock := ⟨hg.os, hg.tape, hg.output, Nat.le_trans (by simp) hg.size, fun j hj hne => by
        rw [hg.block j (by simp; omega) hne]
        exact Below.heap_alloc _ _ _ hj⟩
      exact Below.grown (Below.refl _ _) hg' (Nat.le_trans hbase k.size) fun j hj => (hown.lt j hj).1

theorem step_append_partK {K : Act → World → Prop} {E : Prop} (Wp : World) (hgd : o.guard = none) (s x : Operand) (t : TypeId) (ho : o.op = .call { callee := .builtin .append, args := #[s, x], argTypes := #[t, t] })
    (base : Nat) (e e' : TypeId) (i : TypeInfo) (z : Value) (bytes : Nat) (ht : P.underlying t = some (.slice e)) (hi : P.info? e = some i) (hz : i.zero = some z)
    (hsize : i.size = c.size) (hby : i.bytes = bytes) (hzs : z.cells.size = c.size) (hsz : 0 < c.size) (hbp : 0 < bytes)
    (w0 : World) (v : Value) (n : Nat) (xs : List α) (hs : a.eval s = v) (hp : PartV c w0 base e v n xs) (hlen : xs.length = n) (k : Below w0.heap.size w0 Wp)
    (y : α) (f : List Nat) (cs : List Value) (hcl : cs.length = c.size) (hrd : c.rd Wp (lst cs) y f) (hm : Mine Wp w0.heap.size f)
    (H : Nat) (hH : Wp.heap.size = H) (hx : a.eval x = .slice (some ⟨H, 0, none⟩) 1 1) (h1 : ∀ u ∈ cs, u.oneCell' = true)
    (hbytes : (n + 1) * bytes ≤ room) (hbase : base ≤ w0.heap.size)
    (h : ∀ g cap w', Part c w' base e (.slice (some ⟨g, 0, none⟩) (n + 1) cap) (n + 1) (xs ++ [y]) → Below base Wp w' → Keep w0.heap.size (Wp.alloc (.cells cs.toArray e')) w' → K (a.put o.dst (.slice (some ⟨g, 0, none⟩) (n + 1) cap)) w') :
    if Region.wanted o (yielded ops a.tmps) = true then Oper.wp P o a (Wp.alloc (.cells cs.toArray e')) K Q else E := by
  rcases hp with ⟨p, rfl, rfl, rfl⟩ | ⟨cells, hp⟩
  · subst hH
    have hz2 : Wp.heap.size + 1 = (Wp.alloc (.cells cs.toArray e')).heap.size := by simp
    have k2 : Below w0.heap.size w0 (Wp.alloc (.cells cs.toArray e')) := below_alloc _ k
    have hrd2 : c.rd (Wp.alloc (.cells cs.toArray e')) (lst cs) y f := c.frame (fun b hb => Below.heap_alloc _ _ _ (c.old hrd b hb)) hrd
    have hm2 : Mine (Wp.alloc (.cells cs.toArray e')) w0.heap.size f := hm.frame fun b hb => Below.heap_alloc _ _ _ (c.old hrd b hb)
    have hks := k2.size
    cases p with
    | none =>
      exact step_append_keep (c := c) Wp hgd s x t ho base e e' i z bytes ht hi hz hsize hby hzs hsz hbp w0 (.slice none 0 0) 0 [] [] hs (part_start (World.ownsRow_nil _ _ _ _)) rfl k y f cs hcl hrd hm _ rfl hx h1 hbytes hbase h
    | some ad =>
      refine step_append_grows hgd s x t ho e i z c.size bytes ht hi hz hsize hby hzs hsz (some ad) 0 0 [] hs (fun h => by cases h) (by simp) (fun b _ j u hj => by simp at hj) ⟨Wp.heap.size, 0, none⟩ 1 1 cs hx (by omega) ?_ h1 (by omega) (by decide) hbytes ?_
      · intro j u hj
        rw [WideShapes.add_plain, Nat.zero_add, World.cell?_alloc_mark]
        simpa using hj
      · intro v' w' hown hg
        rcases own_forms hown with ⟨_, h0⟩ | ⟨g, cap, rfl⟩
        · omega
        · have hlt := hown.lt g rfl
          have hown' := ownsRow_le hown (base' := base) (by omega)
          have hP := PartC.snoc (c := c) (v := .slice none 0 0) (n := 0) (xs := []) (cells := []) (base := base) (e := e) (part_start (World.ownsRow_nil w0 base e c.size)) k2 hrd2 hm2 rfl (w2 := w') (v' := .slice (some ⟨g, 0, none⟩) (0 + 1) cap) (g' := g) (vs := cs) hown' hg rfl (Or.inr hlt.1) hbase
          refine h g cap w' hP ?_ ⟨hg.size, fun b h1 h2 => hg.block b h2 (fun e => by cases e)⟩
          have hg' : Wp.grownBy w' none := ⟨hg.os, hg.tape, hg.output, Nat.le_trans (by simp) hg.size, fun j hj hne => by
            rw [hg.block j (by simp; omega) hne]
            exact Below.heap_alloc _ _ _ hj⟩
          exact ⟨hg'.os, hg'.tape, hg'.output, hg'.size, fun j hj => hg'.block j (by have := k.size; omega) (fun e => by cases e)⟩
  · exact step_append_keep (c := c) Wp hgd s x t ho base e e' i z bytes ht hi hz hsize hby hzs hsz hbp w0 v n xs cells hs hp hlen k y f cs hcl hrd hm H hH hx h1 hbytes hbase h

end
end Go.Proofs.Ytogdbjalgledpaa
