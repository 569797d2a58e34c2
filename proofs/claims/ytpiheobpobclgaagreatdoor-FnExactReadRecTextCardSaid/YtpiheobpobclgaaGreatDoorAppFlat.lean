/- append of a flat list to a row of the call's own, as a step of a region that draws its order. Plain lemmas over any program. Printed by mkputs.py. -/
import Derived.Test.YtpiheobpobclgaaGreatDoorRowd
import Derived.Test.YtpiheobpobclgaaGreatDoorBlk
import Derived.Maps.AppendAt
namespace Go.Proofs.YtpiheobpobclgaaGreatDoor
open Go.RowKit

section
variable {P : Program} {ops : Array Oper} {o : Oper} {a : Act} {Q : Exit → Act → World → Prop} {α : Type} {c : Cod α}

theorem run_append_flat (hflat : Flat c) (Wp : World) (t ty : TypeId)
    (base : Nat) (e : TypeId) (i : TypeInfo) (z : Value) (bytes : Nat) (ht : P.underlying t = some (.slice e)) (hi : P.info? e = some i) (hz : i.zero = some z)
    (hsize : i.size = c.size) (hby : i.bytes = bytes) (hzs : z.cells.size = c.size) (hsz : 0 < c.size) (hbp : 0 < bytes)
    (v : Value) (n : Nat) (xs : List α) (cells : List Value) (hp : PartC c Wp base e v n xs cells) (hlen : xs.length = n)
    (src : Value) (ys : List α) (hr : Rd c Wp src ys) (hbytes : (n + ys.length) * bytes ≤ room) (hbase : base ≤ Wp.heap.size) :
    ∃ p cap w' cells', (Builtin.append_ #[t, t] ty #[v, src]).run P Wp = .ok (.slice p (n + ys.length) cap) w' ∧ PartC c w' base e (.slice p (n + ys.length) cap) (n + ys.length) (xs ++ ys) cells' ∧ Wp.grownBy w' v.ownBlock ∧ Below base Wp w' := by
  obtain ⟨fs, hown, _⟩ := id hp
  obtain ⟨p, cap, rfl, hlc, hcm, hnone, r⟩ : ∃ p cap, src = .slice p ys.length cap ∧ ys.length ≤ cap ∧ cap ≤ maxLen ∧ (p = none → cap = 0) ∧ (0 < ys.length → ∃ g o, p = some ⟨g, o, none⟩ ∧ g < Wp.heap.size ∧ ∀ j (h : j < ys.length), At c Wp g (o + j * c.size) ys[j]) := by
    obtain ⟨fp, a', cap, hv, h1, h2, h3, h4⟩ := hr
    refine ⟨a', cap, hv, h1, h2, h3, fun hpos => ?_⟩
    rcases h4 with ⟨rfl, _⟩ | ⟨b, off, fs, ha, _, hb, he⟩
    · simp at hpos
    · refine ⟨b, off, ha, hb, fun j hj => ?_⟩
      obtain ⟨f, _, h1⟩ := Cod.elems_at _ he j hj
      exact ⟨f, h1⟩
  by_cases hp0 : p = none
  · subst hp0
    have hc0 := hnone rfl
    subst hc0
    have hy : ys = [] := List.eq_nil_of_length_eq_zero (by omega)
    subst hy
    obtain ⟨p', c', rfl⟩ := hp.form
    refine ⟨p', c', Wp, cells, by simpa using run_append_owned_none (P := P) (w := Wp) base t ty e i c.size ht hi _ n cells hown, by simpa using hp, ⟨rfl, rfl, rfl, Nat.le_refl _, fun _ _ _ => rfl⟩, Below.refl _ _⟩
  · obtain ⟨ad, rfl⟩ := Option.ne_none_iff_exists'.1 hp0
    have hnews : ∃ news : List Value, news.length = ys.length * c.size ∧ (∀ j u, news[j]? = some u → Wp.cell? (ad.add j) = some u) ∧ (∀ u ∈ news, u.oneCell' = true) ∧
        ∀ (w' : World) (j : Nat) (h : j < ys.length), c.rd w' (fun i => news[j * c.size + i]?) ys[j] [] := by
      rcases Nat.eq_zero_or_pos ys.length with h0 | hpos
      · have hy : ys = [] := List.eq_nil_of_length_eq_zero h0
        subst hy
        exact ⟨[], by simp, by simp, by simp, fun _ j hj => by simp at hj⟩
      · obtain ⟨g, o', he, hg, hc⟩ := r hpos
        injection he with he
        subst he
        obtain ⟨c1, c2⟩ := flat_cells hflat hsz hc
        refine ⟨cellsFrom Wp g o' (ys.length * c.size), cellsFrom_length _ _ _ _, fun j u hu => ?_, fun u hu => ?_, c2⟩
        · have hj : j < ys.length * c.size := by
            have := (List.getElem?_eq_some_iff.1 hu).1
            rwa [cellsFrom_length] at this
          rw [cellsFrom_get hj] at hu
          rw [WideShapes.add_plain, (c1 j hj).1, hu]
        · obtain ⟨j, hj, rfl⟩ := List.getElem_of_mem hu
          have hj' := hj
          rw [cellsFrom_length] at hj'
          have := cellsFrom_get (w := Wp) (b := g) (o := o') hj'
          rw [List.getElem?_eq_getElem hj] at this
          injection this with this
          rw [this]
          exact (c1 j hj').2
    obtain ⟨news, n1, n2, n3, n4⟩ := hnews
    have h63 : n + ys.length ≤ maxLen := by
      have h2 : (n + ys.length) * 1 ≤ (n + ys.length) * bytes := Nat.mul_le_mul_left _ hbp
      have h3 : (n + ys.length) * bytes ≤ room := hbytes
      unfold room at h3
      unfold maxLen
      omega
    obtain ⟨v', w', hrun, hown', hg, _, hat⟩ := run_append_own_at (P := P) Wp base t ty e i z c.size bytes ht hi hz hsize hby hzs hsz v n cells hown ad ys.length cap news n1 n2 n3 h63 hbytes hbase
    have hP := hp.more (Below.refl _ _) hlen n4 hown' hg hat
    obtain ⟨p', c', rfl⟩ := hP.form
    exact ⟨p', c', w', _, hrun, hP, hg, Below.grown (Below.refl _ _) hg hbase fun j hj => (hown.lt j hj).1⟩

theorem step_append_eq {w : World} {K : Act → World → Prop} {E : Prop} (hgd : o.guard = none) (s x : Operand) (t : TypeId)
    (ho : o.op = .call { callee := .builtin .append, args := #[s, x], argTypes := #[t, t] }) (v u : Value) (hs : a.eval s = v) (hx : a.eval x = u) {r : Value} {w' : World}
    (hrun : (Builtin.append_ #[t, t] o.type #[v, u]).run P w = .ok r w') (h : K (a.put o.dst r) w') : if Region.wanted o (yielded ops a.tmps) = true then Oper.wp P o a w K Q else E := by
  have hw : Region.wanted o (yielded ops a.tmps) = true := by simp [Region.wanted, hgd]
  rw [if_pos hw]
  unfold Oper.wp
  simp [execOp, ho, resolve, invoke, builtin, hs, hx, hrun, Result.andThen]
  exact h
end

/-- A box of cells, read as a slice of one element. -/
theorem rd_box {α : Type} {c : Cod α} {w : World} {B : Nat} {e : TypeId} {cs : Array Value} {x : α} (h : Blk w B e cs) (hrd : c.rd w (lst cs.toList) x []) : Rd c w (.slice (some ⟨B, 0, none⟩) 1 1) [x] := by
  refine ⟨[B], some ⟨B, 0, none⟩, 1, rfl, Nat.le_refl _, by unfold maxLen; omega, (fun h => by cases h), Or.inr ⟨B, 0, [[]], rfl, by simp, h.lt, ?_⟩⟩
  refine Cod.elems_of c rfl fun k hk f hf => ?_
  have : k = 0 := by simpa using hk
  subst this
  simp only [List.getElem?_cons_zero, Option.some.injEq] at hf
  subst hf
  refine c.ext (fun i _ => ?_) hrd
  show cs.toList[i]? = w.cell? ⟨B, 0 + 0 * c.size + i, none⟩
  unfold Blk at h
  simp [World.cell?, h]

end Go.Proofs.YtpiheobpobclgaaGreatDoor
