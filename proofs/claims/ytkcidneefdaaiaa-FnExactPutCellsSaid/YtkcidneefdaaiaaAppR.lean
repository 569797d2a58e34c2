/- An append of one element to a row whose room is known: in place, or in a new row. Plain lemmas over any program. -/
import Derived.Test.YtkcidneefdaaiaaRowd
import Derived.Deep.RegionLawGrows
namespace Go.Proofs.Ytkcidneefdaaiaa
open Go.RowKit
variable {P : Program} {α : Type} {c : Cod α} {ops : Array Oper} {o : Oper} {a : Act} {Q : Exit → Act → World → Prop}

theorem heap_setCells_same (b : Nat) (e : TypeId) (fr : Nat × Nat) : ∀ (vs : List Value) (o : Nat) (w : World) (cur : Array Value), w.heap[b]? = some (.cells cur e fr) → ∃ cur', (w.setCells b o vs).heap[b]? = some (.cells cur' e fr) ∧ cur'.size = cur.size
  | [], _, _, cur, h => ⟨cur, h, rfl⟩
  | v :: r, o, w, cur, h => by
    have h1 : (w.setCell ⟨b, o, none⟩ v).heap[b]? = some (.cells (cur.setIfInBounds o v) e fr) := by
      simp [World.setCell, Array.getElem?_modify, h]
    obtain ⟨cur', h2, h3⟩ := heap_setCells_same b e fr r (o + 1) _ _ h1
    exact ⟨cur', h2, by simpa using h3⟩

theorem heap_setCells_else (b : Nat) {d : Nat} (hd : d ≠ b) : ∀ (vs : List Value) (o : Nat) (w : World), (w.setCells b o vs).heap[d]? = w.heap[d]?
  | [], _, _ => rfl
  | v :: r, o, w => (heap_setCells_else b hd r (o + 1) _).trans (heap_setCell_other w ⟨b, o, none⟩ d v hd)

theorem below_setCells {B b : Nat} (hb : B ≤ b) {W : World} : ∀ (vs : List Value) (o : Nat) (w : World), Below B W w → Below B W (w.setCells b o vs)
  | [], _, _, h => h
  | v :: r, o, _, h => below_setCells hb r (o + 1) _ (h.setCell hb v)

theorem elems_more {w w' : World} {b off g off' : Nat} {xs : List α} {fs : List (List Nat)} {y : α} {f : List Nat} {cs : List Value} (he : Cod.elems c w b off xs fs) (hfs : ∀ d ∈ fs.flatten, w'.heap[d]? = w.heap[d]?) (hf : ∀ d ∈ f, w'.heap[d]? = w.heap[d]?)
    (hrd : c.rd w (lst cs) y f) (hc : ∀ j, j < xs.length * c.size → w'.cell? ⟨g, off' + j, none⟩ = w.cell? ⟨b, off + j, none⟩) (hn : ∀ j, j < c.size → w'.cell? ⟨g, off' + xs.length * c.size + j, none⟩ = cs[j]?) :
    Cod.elems c w' g off' (xs ++ [y]) (fs ++ [f]) := by
  have hl := Cod.elems_length c he
  refine Cod.elems_of c (by simp [hl]) fun k hk f' hf' => ?_
  simp only [List.length_append, List.length_cons, List.length_nil] at hk
  by_cases hkx : k < xs.length
  · rw [List.getElem?_append_left (by omega)] at hf'
    rw [List.getElem_append_left hkx]
    obtain ⟨f2, h1, h2⟩ := Cod.elems_at c he k hkx
    rw [hf'] at h1
    injection h1 with h1
    subst h1
    refine c.ext (fun i hi => ?_) (c.frame (fun d hd => hfs d (List.mem_flatten.2 ⟨f', List.mem_of_getElem? hf', hd⟩)) h2)
    have := hc _ (idx_lt hkx hi)
    show w.cell? ⟨b, off + k * c.size + i, none⟩ = w'.cell? ⟨g, off' + k * c.size + i, none⟩
    rw [Nat.add_assoc, Nat.add_assoc, this]
  · have hke : k = xs.length := by omega
    subst hke
    rw [List.getElem?_append_right (by omega), hl, Nat.sub_self] at hf'
    simp only [List.getElem?_cons_zero, Option.some.injEq] at hf'
    subst hf'
    rw [List.getElem_append_right (Nat.le_refl _)]
    simp only [Nat.sub_self, List.getElem_cons_zero]
    exact c.ext (fun i hi => (hn i hi).symm) (c.frame hf hrd)

theorem step_append_rdR {K : Act → World → Prop} {E : Prop} (Wp : World) (hgd : o.guard = none) (s x : Operand) (t : TypeId) (ho : o.op = .call { callee := .builtin .append, args := #[s, x], argTypes := #[t, t] })
    (base : Nat) (e e' : TypeId) (i : TypeInfo) (z : Value) (bytes : Nat) (ht : P.underlying t = some (.slice e)) (hi : P.info? e = some i) (hz : i.zero = some z)
    (hsize : i.size = c.size) (hby : i.bytes = bytes) (hzs : z.cells.size = c.size) (hsz : 0 < c.size) (hbp : 0 < bytes)
    (v : Value) (xs : List α) (fp : List Nat) (hs : a.eval s = v) (hr : Cod.rdR c Wp v xs fp) (hm : Mine Wp base fp) (hB : base ≤ Wp.heap.size)
    (y : α) (f : List Nat) (cs : List Value) (hcl : cs.length = c.size) (hrd : c.rd Wp (lst cs) y f) (hdis : ∀ b ∈ f, b ∉ fp)
    (H : Nat) (hH : Wp.heap.size = H) (hx : a.eval x = .slice (some ⟨H, 0, none⟩) 1 1) (h1 : ∀ u ∈ cs, u.oneCell' = true)
    (hbytes : (xs.length + 1) * bytes ≤ room)
    (h : ∀ g off cap w' fpo, Cod.rdR c w' (.slice (some ⟨g, off, none⟩) (xs.length + 1) cap) (xs ++ [y]) (g :: (fpo ++ f)) → (fpo.Nodup ∧ (∀ b ∈ fpo, b ∈ fp) ∧ g ∉ fpo ∧ (g ∈ fp ∨ Wp.heap.size < g)) → (∀ b ∈ g :: fpo, ∀ i, w'.frozen? ⟨b, i, none⟩ = false) →
      Below base Wp w' → (∀ b, b < Wp.heap.size → b ∉ fp → w'.heap[b]? = Wp.heap[b]?) → K (a.put o.dst (.slice (some ⟨g, off, none⟩) (xs.length + 1) cap)) w') :
    if Region.wanted o (yielded ops a.tmps) = true then Oper.wp P o a (Wp.alloc (.cells cs.toArray e')) K Q else E := by
  subst hH
  have hold : ∀ b, b < Wp.heap.size → (Wp.alloc (.cells cs.toArray e')).heap[b]? = Wp.heap[b]? := fun b hb => Below.heap_alloc _ _ _ hb
  have hnew : ∀ j u, cs[j]? = some u → (Wp.alloc (.cells cs.toArray e')).cell? ((⟨Wp.heap.size, 0, none⟩ : Addr).add j) = some u := by
    intro j u hj
    rw [WideShapes.add_plain, Nat.zero_add, World.cell?_alloc_mark]
    simpa using hj
  have hfl : ∀ b ∈ f, b < Wp.heap.size := c.old hrd
  have hmax : xs.length + 1 ≤ maxLen := by
    have h2 : (xs.length + 1) * 1 ≤ (xs.length + 1) * bytes := Nat.mul_le_mul_left _ hbp
    unfold room at hbytes
    unfold maxLen
    omega
  have hrm : (xs.length + 1) * bytes ≤ 140737488355328 := by unfold room at hbytes; omega
  have grow : ∀ (ao : Option Addr) (b off cap : Nat) (fs : List (List Nat)) (olds : List Value), a.eval s = .slice ao xs.length cap → (ao = none → xs.length = 0 ∧ cap = 0) → olds.length = xs.length * c.size → (∀ b, ao = some b → ∀ j u, olds[j]? = some u → (Wp.alloc (.cells cs.toArray e')).cell? (b.add j) = some u) →
      Cod.elems c Wp b off xs fs → (∀ j, j < xs.length * c.size → olds[j]? = Wp.cell? ⟨b, off + j, none⟩) → cap < xs.length + 1 → (∀ d ∈ fs.flatten, d ∈ fp) → fs.flatten.Nodup → (∀ d ∈ fs.flatten, d < Wp.heap.size) →
      if Region.wanted o (yielded ops a.tmps) = true then Oper.wp P o a (Wp.alloc (.cells cs.toArray e')) K Q else E := by
    intro ao b off cap fs olds hs hno holl holc he hoc hcap hin hnd hlt
    refine step_append_grows hgd s x t ho e i z c.size bytes ht hi hz hsize hby hzs hsz ao xs.length cap olds hs hno holl holc ⟨Wp.heap.size, 0, none⟩ 1 1 cs hx (by omega) hnew h1 hcap hmax hrm ?_
    intro v' w' hown hg
    rcases own_forms hown with ⟨_, h0⟩ | ⟨g, cap', rfl⟩
    · omega
    · have hlt' := hown.lt g rfl
      have hgl : Wp.heap.size < g := by have := hlt'.1; simp at this; omega
      have hob : ∀ d, d < Wp.heap.size → w'.heap[d]? = Wp.heap[d]? := fun d hd => (hg.block d (by simp; omega) (fun e => by cases e)).trans (hold d hd)
      have hel : Cod.elems c w' g 0 (xs ++ [y]) (fs ++ [f]) := elems_more he (fun d hd => hob d (hlt d hd)) (fun d hd => hob d (hfl d hd)) hrd
        (fun j hj => by rw [Nat.zero_add, hown.cellAt j (by rw [Nat.add_mul]; omega), List.getElem?_append_left (by omega), hoc j hj])
        (fun j hj => by rw [Nat.zero_add, hown.cellAt _ (by rw [Nat.add_mul]; omega), List.getElem?_append_right (by omega), holl, Nat.add_sub_cancel_left])
      rcases hown.2 with ⟨e1, _⟩ | ⟨g2, cap2, cur, e1, _, hgb, hc1, hc2, hc3, _⟩
      · cases e1
      injection e1 with e1 e2 e3
      injection e1 with e1
      injection e1 with e1
      subst e1 e3
      refine h g 0 cap' w' fs.flatten (Or.inr ⟨g, 0, cap', fs ++ [f], cur, e, by simp, by simpa using hc1, hc2, by simp, hgb, by omega, hel⟩) ⟨hnd, hin, fun hd => by have := hlt _ hd; omega, Or.inr hgl⟩ (fun d hd i => by
        rcases List.mem_cons.1 hd with rfl | hd
        · exact hown.frozenAt i
        · exact (World.frozen?_of_block (a := ⟨d, i, none⟩) (hob d (hlt d hd))).trans (hm.free d (hin d hd) i)) ⟨hg.os, hg.tape, hg.output, Nat.le_trans (by simp) hg.size, fun d hd => hob d (by omega)⟩ (fun d hd _ => hob d hd)
  rcases hr with ⟨rfl, rfl, rfl⟩ | ⟨b, off, cap, fs, cur, e1, rfl, hc1, hc2, rfl, hhb, hsp, he⟩
  · exact grow none 0 0 0 [] [] hs (fun _ => ⟨rfl, rfl⟩) (by simp) (fun b hb => by cases hb) trivial (fun j hj => by simp at hj) (by simp) (fun d hd => by simp at hd) (by simp) (fun d hd => by simp at hd)
  · have hbl : b < Wp.heap.size := (Array.getElem?_eq_some_iff.1 hhb).1
    have hfo : ∀ d ∈ fs.flatten, d < Wp.heap.size := fun d hd => by
      obtain ⟨f', hf', hd'⟩ := List.mem_flatten.1 hd
      obtain ⟨k, hk, rfl⟩ := List.mem_iff_getElem.1 hf'
      obtain ⟨f2, g1, g2⟩ := Cod.elems_at c he k (by rw [← Cod.elems_length c he]; exact hk)
      rw [List.getElem?_eq_getElem hk] at g1
      injection g1 with g1
      subst g1
      exact c.old g2 d hd'
    have hnd := List.nodup_cons.1 hm.nodup
    have hcell : ∀ j, Wp.cell? ⟨b, j, none⟩ = cur[j]? := fun j => by simp [World.cell?, hhb]
    by_cases hroom : xs.length + 1 ≤ cap
    · have hspace : off + (xs.length + 1) * c.size ≤ cur.size := Nat.le_trans (Nat.add_le_add_left (Nat.mul_le_mul_right _ hroom) _) hsp
      rw [Nat.add_mul, Nat.one_mul] at hspace
      have hsome : ∀ j, j < cs.length → ((Wp.alloc (.cells cs.toArray e')).cell? ⟨b, off + xs.length * c.size + j, none⟩).isSome = true := fun j hj => by
        rw [cell_alloc_old hbl, hcell, Array.getElem?_eq_getElem (by omega)]
        rfl
      refine step_append_room hgd s x t ho e i c.size ht hi hsize b off xs.length cap hs ⟨Wp.heap.size, 0, none⟩ 1 1 cs hx (by omega) hnew h1 hroom (fun j hj => ⟨hsome j hj, (frozen_alloc_old hbl).trans (hm.free b (by simp) _)⟩) ?_
      obtain ⟨cur', q1, q2⟩ := heap_setCells_same b e1 (0, 0) cs (off + xs.length * c.size) (Wp.alloc (.cells cs.toArray e')) cur ((hold b hbl).trans hhb)
      have hob : ∀ d, d < Wp.heap.size → d ≠ b → ((Wp.alloc (.cells cs.toArray e')).setCells b (off + xs.length * c.size) cs).heap[d]? = Wp.heap[d]? := fun d hd hne => (heap_setCells_else b hne cs _ _).trans (hold d hd)
      refine h b off cap _ fs.flatten (Or.inr ⟨b, off, cap, fs ++ [f], cur', e1, by simp, by simpa using hroom, hc2, by simp, q1, by omega, elems_more he (fun d hd => hob d (hfo d hd) (fun e => hnd.1 (e ▸ hd))) (fun d hd => hob d (hfl d hd) (fun e => hdis d hd (e ▸ by simp))) hrd ?_ ?_⟩) ⟨hnd.2, fun d hd => by simp [hd], hnd.1, Or.inl (by simp)⟩
        (fun d hd i => by
          rcases List.mem_cons.1 hd with rfl | hd
          · rw [World.frozen?_setCells, frozen_alloc_old hbl]
            exact hm.free d (by simp) i
          · exact (World.frozen?_of_block (a := ⟨d, i, none⟩) (hob d (hfo d hd) (fun e => hnd.1 (e ▸ hd)))).trans (hm.free d (by simp [hd]) i)) (below_setCells (hm.low b (by simp)) _ _ _ (Below.alloc (Below.refl _ _) hB _)) (fun d hd hne => hob d hd (fun e => hne (e ▸ by simp)))
      · intro j hj
        rw [World.cell?_setCells_out b cs _ _ _ (fun _ _ => Or.inl (by simp; omega)), cell_alloc_old hbl]
      · intro j hj
        rw [World.cell?_setCells_in b cs _ _ hsome j (by omega), List.getElem?_eq_getElem]
    · have hoff : ∀ j, j < xs.length * c.size → ((cur.toList.drop off).take (xs.length * c.size))[j]? = Wp.cell? ⟨b, off + j, none⟩ := fun j hj => by
        rw [List.getElem?_take_of_lt hj, List.getElem?_drop, hcell, Array.getElem?_toList]
      have hle : xs.length * c.size ≤ cap * c.size := Nat.mul_le_mul_right _ hc1
      have hlen : ((cur.toList.drop off).take (xs.length * c.size)).length = xs.length * c.size := by
        have hcl2 : cur.toList.length = cur.size := by simp
        rw [List.length_take, List.length_drop, hcl2]
        omega
      refine grow (some ⟨b, off, none⟩) b off cap fs ((cur.toList.drop off).take (xs.length * c.size)) hs (fun h => by cases h) hlen (fun b' hb' j u hj => ?_) he hoff (by omega) (fun d hd => by simp [hd]) hnd.2 hfo
      injection hb' with hb'
      subst hb'
      have hjl : j < xs.length * c.size := by rw [← hlen]; exact (List.getElem?_eq_some_iff.1 hj).1
      rw [WideShapes.add_plain, cell_alloc_old hbl, ← hoff j hjl]
      exact hj

end Go.Proofs.Ytkcidneefdaaiaa
