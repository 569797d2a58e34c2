/- append of one element to a slice of the call's own; string(b) of such a slice. Plain lemmas over any program. -/
import Derived.Test.YtekgackednpdgaaPlainBytes
namespace Go.Proofs.Ytekgackednpdgaa
open Go.RowKit

/-- 2^47 -/
def room : Nat := 140737488355328
theorem room_le {n : Nat} (h : n ≤ 1048576) {b : Nat} (hb : b ≤ 1024) : n * b ≤ room := by
  have : n * b ≤ 1048576 * 1024 := Nat.mul_le_mul h hb
  unfold room; omega
theorem le_room {n : Nat} (h : n ≤ 70368744177664) : n * 1 ≤ room := by unfold room; omega

section
variable {P : Program} {ops : Array Oper} {rest : List Oper} {o : Oper} {a : Act} {Q : Exit → Act → World → Prop}

theorem wpList_append_one (w : World) (hgd : o.guard = none) (s x : Operand) (t : TypeId) (ho : o.op = .call { callee := .builtin .append, args := #[s, x], argTypes := #[t, t] })
    (base : Nat) (e : TypeId) (i : TypeInfo) (z : Value) (size bytes : Nat) (ht : P.underlying t = some (.slice e)) (hi : P.info? e = some i) (hz : i.zero = some z)
    (hsize : i.size = size) (hby : i.bytes = bytes) (hzs : z.cells.size = size) (hsz : 0 < size) (hbp : 0 < bytes)
    (v : Value) (n : Nat) (xs : List Value) (hs : a.eval s = v) (hown : w.ownsRow base e size v n xs)
    (cs : List Value) (hcl : cs.length = size) (hx : a.eval x = .slice (some ⟨w.heap.size, 0, none⟩) 1 1) (h1 : ∀ u ∈ cs, u.oneCell' = true)
    (hbytes : (n + 1) * bytes ≤ room) (hbase : base ≤ w.heap.size)
    (h : ∀ v' w', w'.ownsRow base e size v' (n + 1) (xs ++ cs) → w.grownBy w' v.ownBlock → Below base w w' → wpList P ops Q rest (a.put o.dst v') w') :
    wpList P ops Q (o :: rest) a (w.alloc (.cells cs.toArray e)) := by
  refine wpList_append_own _ hgd s x t ho base e i z size bytes ht hi hz hsize hby hzs hsz v n xs hs (hown.alloc _) ⟨w.heap.size, 0, none⟩ 1 1 cs hx (by omega) ?_ h1 ?_ hbytes (by simp; omega) ?_
  · intro j u hj
    rw [WideShapes.add_plain, Nat.zero_add, World.cell?_alloc_mark]
    simpa using hj
  · have h2 : (n + 1) * 1 ≤ (n + 1) * bytes := Nat.mul_le_mul_left _ hbp
    have h3 : (n + 1) * bytes ≤ room := hbytes
    unfold room at h3
    unfold maxLen
    omega
  · intro v' w' hown' hg _
    have hg' : w.grownBy w' v.ownBlock := ⟨hg.os, hg.tape, hg.output, Nat.le_trans (by simp) hg.size, fun k hk hne => by
      rw [hg.block k (by simp; omega) hne]
      exact Below.heap_alloc _ _ _ hk⟩
    refine h v' w' hown' hg' (Below.grown (Below.refl _ _) hg' hbase fun k hk => (hown.lt k hk).1)
end

/-- What is owned lies at the head of a block. -/
theorem owned_at {w : World} {base : Nat} {e : TypeId} {size : Nat} {v : Value} {n : Nat} {xs : List Value} (h : w.ownsRow base e size v n xs) (hn : 0 < n) :
    ∃ g cap, v = .slice (some ⟨g, 0, none⟩) n cap ∧ base ≤ g ∧ g < w.heap.size ∧ n ≤ cap ∧ cap ≤ maxLen := by
  rcases h.2 with ⟨_, h0⟩ | ⟨g, cap, cur, rfl, hb, hg, h1, h2, _⟩
  · omega
  · exact ⟨g, cap, rfl, hb, (Array.getElem?_eq_some_iff.1 hg).1, h1, h2⟩

/-- string(b) of bytes that are owned. -/
theorem convert_owned {P : Program} {w : World} {base : Nat} {e src dst : TypeId} {v : Value} {n : Nat} {l : List UInt8} (hs : P.underlying src = some (.slice e)) (he : P.underlying e = some (.int .u8)) (hd : P.underlying dst = some .string)
    (h : w.ownsRow base e 1 v n (l.map byteV)) : (convert src dst v).run P w = .ok (.string ⟨l.toArray⟩) w := by
  have hl : n = l.length := by have := h.1; simp at this; omega
  subst hl
  rcases h.2 with ⟨rfl, h0⟩ | ⟨g, cap, cur, rfl, hb, hg, h1, h2, _⟩
  · have : l = [] := List.eq_nil_of_length_eq_zero h0
    subst this
    exact run_convert_bytes_nil w src e hs he 0 0 dst hd
  · refine run_convert_bytes_back w src dst e _ cap l hs he hd fun j hj => ?_
    refine h.cells rfl j _ ?_
    simp [byteV, List.getElem?_eq_getElem hj]

end Go.Proofs.Ytekgackednpdgaa
