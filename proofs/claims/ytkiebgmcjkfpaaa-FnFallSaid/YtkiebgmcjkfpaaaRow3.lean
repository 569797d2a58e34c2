/- Rows of data that lead nowhere: a whole list appended to a row of the call's own. Plain lemmas over any program. -/
import Derived.Test.YtkiebgmcjkfpaaaKit
import Derived.Test.YtkiebgmcjkfpaaaData
import Derived.Laws.AppendOwnNone
namespace Go.Proofs.Ytkiebgmcjkfpaaa
open Go.RowKit

/-- Data that lead nowhere: they read alike in every world, and each cell is one cell. -/
def Flat {α : Type} (c : Cod α) : Prop := ∀ {w w' : World} {g : Nat → Option Value} {x : α} {f : List Nat}, c.rd w g x f → f = [] ∧ c.rd w' g x [] ∧ ∀ j, j < c.size → ∃ u, g j = some u ∧ u.oneCell' = true

theorem flat_one {α : Type} (mk : α → Value) (ok : α → Prop) (h : ∀ x, (mk x).oneCell' = true) : Flat (Cod.one mk ok) := fun {_ _ g x _} ⟨a, b, c⟩ =>
  ⟨c, ⟨a, b, rfl⟩, fun j hj => by
    have : j = 0 := by have : j < 1 := hj; omega
    subst this
    exact ⟨_, a, h x⟩⟩
theorem flat_pair {α β : Type} {a : Cod α} {b : Cod β} (h : Flat a) (k : Flat b) : Flat (Cod.pair a b) := fun {w w' g x f} ⟨f1, f2, e, h1, h2⟩ => by
  obtain ⟨e1, r1, s1⟩ := h (w' := w') h1
  obtain ⟨e2, r2, s2⟩ := k (w' := w') h2
  refine ⟨by rw [e, e1, e2]; rfl, ⟨[], [], rfl, r1, r2⟩, fun j hj => ?_⟩
  by_cases hja : j < a.size
  · exact s1 j hja
  · obtain ⟨u, hu, ho⟩ := s2 (j - a.size) (by have : j < a.size + b.size := hj; omega)
    exact ⟨u, by rw [← hu]; show g j = g (a.size + (j - a.size)); rw [show a.size + (j - a.size) = j from by omega], ho⟩
theorem flat_via {α β : Type} {c : Cod α} (h : Flat c) (f : β → α) : Flat (Cod.via c f) := fun hr => h hr
theorem flat_int : Flat Cod.int := flat_one _ _ fun _ => by simp [Value.oneCell']
theorem flat_bool : Flat Cod.bool := flat_one _ _ fun _ => by simp [Value.oneCell']
theorem flat_str : Flat Cod.str := flat_one _ _ fun _ => by simp [Value.oneCell']
theorem flat_write : Flat Cod.write := flat_via (flat_pair flat_str (flat_pair flat_str flat_bool)) _
theorem flat_ver : Flat Cod.ver := flat_via (flat_pair flat_int (flat_pair flat_str flat_bool)) _
theorem flat_op : Flat Cod.op := flat_via (flat_pair flat_int (flat_pair flat_str (flat_pair flat_str flat_int))) _

section
variable {P : Program} {ops : Array Oper} {rest : List Oper} {o : Oper} {a : Act} {Q : Exit → Act → World → Prop} {α : Type} {c : Cod α}

/-- The cells of what came in. -/
def cellsFrom (w : World) (b o n : Nat) : List Value := (List.range n).map fun i => valAt w b (o + i)
theorem cellsFrom_length (w : World) (b o n : Nat) : (cellsFrom w b o n).length = n := by simp [cellsFrom]
theorem cellsFrom_get {w : World} {b o n i : Nat} (h : i < n) : (cellsFrom w b o n)[i]? = some (valAt w b (o + i)) := by
  unfold cellsFrom
  rw [List.getElem?_map, List.getElem?_range h]
  rfl

theorem div_split {i s n : Nat} (hs : 0 < s) (h : i < n * s) : i / s < n ∧ i = (i / s) * s + i % s ∧ i % s < s :=
  ⟨(Nat.div_lt_iff_lt_mul hs).2 h, by have := Nat.div_add_mod i s; rw [Nat.mul_comm] at this; omega, Nat.mod_lt _ hs⟩

theorem flat_cells (hf : Flat c) (hsz : 0 < c.size) {w : World} {b o : Nat} {ys : List α} (h : ∀ j (h : j < ys.length), At c w b (o + j * c.size) ys[j]) :
    (∀ i, i < ys.length * c.size → w.cell? ⟨b, o + i, none⟩ = some (valAt w b (o + i)) ∧ (valAt w b (o + i)).oneCell' = true) ∧
    ∀ (w' : World) (j : Nat) (h : j < ys.length), c.rd w' (fun i => (cellsFrom w b o (ys.length * c.size))[j * c.size + i]?) ys[j] [] := by
  have h1 : ∀ i, i < ys.length * c.size → w.cell? ⟨b, o + i, none⟩ = some (valAt w b (o + i)) ∧ (valAt w b (o + i)).oneCell' = true := fun i hi => by
    obtain ⟨hj, he, hr⟩ := div_split hsz hi
    obtain ⟨f, hrd⟩ := h _ hj
    obtain ⟨_, _, hc⟩ := hf (w' := w) hrd
    obtain ⟨u, hu, ho⟩ := hc _ hr
    have hu' : w.cell? ⟨b, o + i, none⟩ = some u := by
      rw [← hu]
      show _ = w.cell? ⟨b, o + i / c.size * c.size + i % c.size, none⟩
      rw [Nat.add_assoc, ← he]
    refine ⟨has_of hu', ?_⟩
    unfold valAt
    rw [hu']
    exact ho
  refine ⟨h1, fun w' j hj => ?_⟩
  obtain ⟨f, hrd⟩ := h j hj
  refine c.ext (fun i hi => ?_) (hf (w' := w') hrd).2.1
  show w.cell? ⟨b, o + j * c.size + i, none⟩ = _
  have hlt := idx_lt hj hi
  rw [cellsFrom_get hlt, Nat.add_assoc]
  exact (h1 _ hlt).1

/-- A row that is being built, and a list more. -/
theorem PartC.more {w w1 w2 : World} {base : Nat} {e : TypeId} {v v' : Value} {n : Nat} {xs ys : List α} {cells news : List Value} (h : PartC c w base e v n xs cells) (k : Below w.heap.size w w1) (hlen : xs.length = n)
    (hr : ∀ (w' : World) (j : Nat) (h : j < ys.length), c.rd w' (fun i => news[j * c.size + i]?) ys[j] [])
    (ho2 : w2.ownsRow base e c.size v' (n + ys.length) (cells ++ news)) (kg : w1.grownBy w2 v.ownBlock) (hv' : v'.ownBlock = v.ownBlock ∨ v'.ownBlock = some w1.heap.size) :
    PartC c w2 base e v' (n + ys.length) (xs ++ ys) (cells ++ news) := by
  obtain ⟨fs, ho, hl, hf, hrd, hmf, hlt, hb⟩ := h
  have hcl : cells.length = n * c.size := ho.1
  have hfl : (fs ++ List.replicate ys.length ([] : List Nat)).flatten = fs.flatten := by
    rw [List.flatten_append, show (List.replicate ys.length ([] : List Nat)).flatten = [] from List.flatten_eq_nil_iff.2 fun x hx => List.eq_of_mem_replicate hx, List.append_nil]
  subst hlen
  have hfold : ∀ b ∈ fs.flatten, w2.heap[b]? = w.heap[b]? := fun b hb' => by
    rw [kg.block b (Nat.lt_of_lt_of_le (hlt b hb') k.size) (fun e => hb b e.symm hb')]
    exact k.block b (hlt b hb')
  refine ⟨fs ++ List.replicate ys.length [], ho2, by simp, by simp [hf], ?_, ?_, ?_, ?_⟩
  · intro j hj f' hf'
    simp only [List.length_append] at hj
    by_cases hjx : j < xs.length
    · rw [List.getElem?_append_left (by omega)] at hf'
      rw [List.getElem_append_left hjx]
      refine c.ext (fun i hi => ?_) (c.frame (fun b hb' => hfold b ?_) (hrd j hjx f' hf'))
      · exact (List.getElem?_append_left (by rw [hcl]; exact idx_lt hjx hi)).symm
      · exact List.mem_flatten.2 ⟨f', List.mem_of_getElem? hf', hb'⟩
    · rw [List.getElem?_append_right (by omega)] at hf'
      have hf0 : f' = [] := List.eq_of_mem_replicate (List.mem_of_getElem? hf')
      subst hf0
      rw [List.getElem_append_right (by omega)]
      refine c.ext (fun i hi => ?_) (hr w2 (j - xs.length) (by omega))
      have hge : xs.length * c.size ≤ j * c.size := Nat.mul_le_mul_right _ (by omega)
      rw [List.getElem?_append_right (by rw [hcl]; omega), hcl, Nat.sub_mul]
      congr 1
      omega
  · rw [hfl]; exact hmf.frame hfold
  · rw [hfl]; exact fun b hb' => Nat.lt_of_lt_of_le (hlt b hb') (Nat.le_trans k.size kg.size)
  · rw [hfl]
    intro b he hb'
    rcases hv' with e' | e'
    · exact hb b (e' ▸ he) hb'
    · rw [e'] at he
      injection he with he
      subst he
      have := hlt _ hb'
      have := k.size
      omega

theorem PartC.form {w : World} {base : Nat} {e : TypeId} {v : Value} {n : Nat} {xs : List α} {cells : List Value} (h : PartC c w base e v n xs cells) : ∃ p cap, v = .slice p n cap := by
  obtain ⟨_, ho, _⟩ := h
  rcases own_forms ho with ⟨rfl, h0⟩ | ⟨g, cap, rfl⟩
  · exact ⟨none, 0, by rw [h0]⟩
  · exact ⟨_, cap, rfl⟩

/-- append(s, x...) where x came in, or is the call's own. -/
theorem wpList_append_flat (hflat : Flat c) (Wp : World) (hgd : o.guard = none) (s x : Operand) (t : TypeId) (ho : o.op = .call { callee := .builtin .append, args := #[s, x], argTypes := #[t, t] })
    (base : Nat) (e : TypeId) (i : TypeInfo) (z : Value) (bytes : Nat) (ht : P.underlying t = some (.slice e)) (hi : P.info? e = some i) (hz : i.zero = some z)
    (hsize : i.size = c.size) (hby : i.bytes = bytes) (hzs : z.cells.size = c.size) (hsz : 0 < c.size) (hbp : 0 < bytes)
    (w0 : World) (v : Value) (n : Nat) (xs : List α) (cells : List Value) (hs : a.eval s = v) (hp : PartC c w0 base e v n xs cells) (hlen : xs.length = n) (k : Below w0.heap.size w0 Wp)
    (src : Value) (ys : List α) (hx : a.eval x = src) (hr : Rd c Wp src ys)
    (hbytes : (n + ys.length) * bytes ≤ room) (hbase : base ≤ w0.heap.size)
    (h : ∀ p cap w' cells', PartC c w' base e (.slice p (n + ys.length) cap) (n + ys.length) (xs ++ ys) cells' → Below base Wp w' → wpList P ops Q rest (a.put o.dst (.slice p (n + ys.length) cap)) w') :
    wpList P ops Q (o :: rest) a Wp := by
  obtain ⟨fs, hown, _⟩ := id (hp.below k)
  obtain ⟨p, cap, rfl, hlc, hcm, hnone, r⟩ : ∃ p cap, src = .slice p ys.length cap ∧ ys.length ≤ cap ∧ cap ≤ maxLen ∧ (p = none → cap = 0) ∧ (0 < ys.length → ∃ g o, p = some ⟨g, o, none⟩ ∧ g < Wp.heap.size ∧ ∀ j (h : j < ys.length), At c Wp g (o + j * c.size) ys[j]) := by
    obtain ⟨fp, a', cap, hv, h1, h2, h3, h4⟩ := hr
    refine ⟨a', cap, hv, h1, h2, h3, fun hpos => ?_⟩
    rcases h4 with ⟨rfl, _⟩ | ⟨b, off, fs, ha, _, hb, he⟩
    · simp at hpos
    · refine ⟨b, off, ha, hb, fun j hj => ?_⟩
      obtain ⟨f, _, h1⟩ := Cod.elems_at _ he j hj
      exact ⟨f, h1⟩
  by_cases hp0 : p = none
  · subst hp0
    have hc0 := hnone rfl
    subst hc0
    have hy : ys = [] := List.eq_nil_of_length_eq_zero (by omega)
    subst hy
    obtain ⟨p', c', rfl⟩ := hp.form
    refine wpList_append_own_none hgd s x t ho base e i c.size ht hi _ n cells hs hown (by rw [hx]; rfl) ?_
    have := h p' c' Wp cells (by simpa using hp.below k) (Below.refl _ _)
    simpa using this
  · obtain ⟨ad, rfl⟩ := Option.ne_none_iff_exists'.1 hp0
    have hnews : ∃ news : List Value, news.length = ys.length * c.size ∧ (∀ j u, news[j]? = some u → Wp.cell? (ad.add j) = some u) ∧ (∀ u ∈ news, u.oneCell' = true) ∧
        ∀ (w' : World) (j : Nat) (h : j < ys.length), c.rd w' (fun i => news[j * c.size + i]?) ys[j] [] := by
      rcases Nat.eq_zero_or_pos ys.length with h0 | hpos
      · have hy : ys = [] := List.eq_nil_of_length_eq_zero h0
        subst hy
        exact ⟨[], by simp, by simp, by simp, fun _ j hj => by simp at hj⟩
      · obtain ⟨g, o', he, hg, hc⟩ := r hpos
        injection he with he
        subst he
        obtain ⟨c1, c2⟩ := flat_cells hflat hsz hc
        refine ⟨cellsFrom Wp g o' (ys.length * c.size), cellsFrom_length _ _ _ _, fun j u hu => ?_, fun u hu => ?_, c2⟩
        · have hj : j < ys.length * c.size := by
            have := (List.getElem?_eq_some_iff.1 hu).1
            rwa [cellsFrom_length] at this
          rw [cellsFrom_get hj] at hu
          rw [WideShapes.add_plain, (c1 j hj).1, hu]
        · obtain ⟨j, hj, rfl⟩ := List.getElem_of_mem hu
          have hj' := hj
          rw [cellsFrom_length] at hj'
          have := cellsFrom_get (w := Wp) (b := g) (o := o') hj'
          rw [List.getElem?_eq_getElem hj] at this
          injection this with this
          rw [this]
          exact (c1 j hj').2
    obtain ⟨news, n1, n2, n3, n4⟩ := hnews
    have h63 : n + ys.length ≤ maxLen := by
      have h2 : (n + ys.length) * 1 ≤ (n + ys.length) * bytes := Nat.mul_le_mul_left _ hbp
      have h3 : (n + ys.length) * bytes ≤ room := hbytes
      unfold room at h3
      unfold maxLen
      omega
    refine wpList_append_own_at _ hgd s x t ho base e i z c.size bytes ht hi hz hsize hby hzs hsz v n cells hs hown ad ys.length cap news hx n1 n2 n3 h63 hbytes (Nat.le_trans hbase k.size) ?_
    intro v' w' hown' hg _ hat
    have hP := hp.more k hlen n4 hown' hg hat
    obtain ⟨p', c', rfl⟩ := hP.form
    refine h p' c' w' _ hP (Below.grown (Below.refl _ _) hg (Nat.le_trans hbase k.size) fun j hj => (hown.lt j hj).1)

end
end Go.Proofs.Ytkiebgmcjkfpaaa
