/- append to a row of data that is being built, at a step of a region that draws its order. Plain lemmas over any program. -/
import Derived.Test.YtogdbjalgledpaaKit
namespace Go.Proofs.Ytogdbjalgledpaa
open Go.RowKit

section
variable {P : Program} {ops : Array Oper} {o : Oper} {a : Act} {Q : Exit → Act → World → Prop} {α : Type} {c : Cod α}

theorem step_append_part {K : Act → World → Prop} {E : Prop} (Wp : World) (hgd : o.guard = none) (s x : Operand) (t : TypeId) (ho : o.op = .call { callee := .builtin .append, args := #[s, x], argTypes := #[t, t] })
    (base : Nat) (e e' : TypeId) (i : TypeInfo) (z : Value) (bytes : Nat) (ht : P.underlying t = some (.slice e)) (hi : P.info? e = some i) (hz : i.zero = some z)
    (hsize : i.size = c.size) (hby : i.bytes = bytes) (hzs : z.cells.size = c.size) (hsz : 0 < c.size) (hbp : 0 < bytes)
    (w0 : World) (v : Value) (n : Nat) (xs : List α) (cells : List Value) (hs : a.eval s = v) (hp : PartC c w0 base e v n xs cells) (hlen : xs.length = n) (k : Below w0.heap.size w0 Wp)
    (y : α) (f : List Nat) (cs : List Value) (hcl : cs.length = c.size) (hrd : c.rd Wp (lst cs) y f) (hm : Mine Wp w0.heap.size f)
    (H : Nat) (hH : Wp.heap.size = H) (hx : a.eval x = .slice (some ⟨H, 0, none⟩) 1 1) (h1 : ∀ u ∈ cs, u.oneCell' = true)
    (hbytes : (n + 1) * bytes ≤ room) (hbase : base ≤ w0.heap.size)
    (h : ∀ g cap w', Part c w' base e (.slice (some ⟨g, 0, none⟩) (n + 1) cap) (n + 1) (xs ++ [y]) → Below base Wp w' → K (a.put o.dst (.slice (some ⟨g, 0, none⟩) (n + 1) cap)) w') :
    if Region.wanted o (yielded ops a.tmps) = true then Oper.wp P o a (Wp.alloc (.cells cs.toArray e')) K Q else E := by
  subst hH
  obtain ⟨fs, hown, _⟩ := id (hp.below k)
  refine step_append_lies _ hgd s x t ho base e i z c.size bytes ht hi hz hsize hby hzs hsz v n cells hs (hown.alloc _) ⟨Wp.heap.size, 0, none⟩ 1 1 cs hx (by omega) ?_ h1 (by decide) ?_ hbytes (by have := k.size; simp; omega) _ rfl ?_
  · intro j u hj
    rw [WideShapes.add_plain, Nat.zero_add, World.cell?_alloc_mark]
    simpa using hj
  · have h2 : (n + 1) * 1 ≤ (n + 1) * bytes := Nat.mul_le_mul_left _ hbp
    have h3 : (n + 1) * bytes ≤ room := hbytes
    unfold room at h3
    unfold maxLen
    omega
  · intro g cap w' hown' hg hat _
    have k2 : Below w0.heap.size w0 (Wp.alloc (.cells cs.toArray e')) := below_alloc _ k
    have hrd2 : c.rd (Wp.alloc (.cells cs.toArray e')) (lst cs) y f := c.frame (fun b hb => Below.heap_alloc _ _ _ (c.old hrd b hb)) hrd
    have hm2 : Mine (Wp.alloc (.cells cs.toArray e')) w0.heap.size f := hm.frame fun b hb => Below.heap_alloc _ _ _ (c.old hrd b hb)
    refine h g cap w' (hp.snoc k2 hrd2 hm2 hlen hown' hg rfl ?_ hbase) ?_
    · rcases hat with hat | hat
      · exact Or.inl hat
      · exact Or.inr (Nat.le_of_eq hat.symm)
    · have hg' : Wp.grownBy w' v.ownBlock := ⟨hg.os, hg.tape, hg.output, Nat.le_trans (by simp) hg.size, fun j hj hne => by
        rw [hg.block j (by simp; omega) hne]
        exact Below.heap_alloc _ _ _ hj⟩
      exact Below.grown (Below.refl _ _) hg' (Nat.le_trans hbase k.size) fun j hj => (hown.lt j hj).1

end
end Go.Proofs.Ytogdbjalgledpaa
