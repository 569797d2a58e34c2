/- impl.copyCells: cells of the call's own, the room of their versions known. -/
import Derived.Test.YtkcidneefdaaiaaOwnC
import Derived.Test.YtkcidneefdaaiaaCloneVer
import Derived.Maps.AppendAt
namespace Go.Proofs.Ytkcidneefdaaiaa
open Go.RowKit

section
variable {α : Type} {c : Cod α} {w w' : World}

/-- One element more, stored; the cells told. -/
theorem PartC.setX {base : Nat} {e : TypeId} {g n cap : Nat} {xs : List α} {cells : List Value} {w1 : World} (h : PartC c w base e (.slice (some ⟨g, 0, none⟩) n cap) n xs cells) (k : Below w.heap.size w w1)
    {x : α} {vs : List Value} {f : List Nat} (hvs : vs.length = c.size) (hx : c.rd w1 (lst vs) x f) (hm : Mine w1 w.heap.size f) (hlen : xs.length < n) :
    PartC c (setMany w1 g (xs.length * c.size) vs) base e (.slice (some ⟨g, 0, none⟩) n cap) n (xs ++ [x]) (setList cells (xs.length * c.size) vs) := by
  obtain ⟨fs, ho, hl, hf, hr, hmf, hlt, hb⟩ := h
  have hg := ho.lt g rfl
  obtain ⟨ho2, kg⟩ := setMany_owns vs (xs.length * c.size) (own_below ho k)
  have hcl : cells.length = n * c.size := ho.1
  have hfold : ∀ b ∈ fs.flatten, (setMany w1 g (xs.length * c.size) vs).heap[b]? = w.heap[b]? := fun b hb' => by
    rw [kg.block b (Nat.lt_of_lt_of_le (hlt b hb') k.size) (fun e => hb g rfl (by injection e with e; exact e ▸ hb'))]
    exact k.block b (hlt b hb')
  have hfx : ∀ b ∈ f, (setMany w1 g (xs.length * c.size) vs).heap[b]? = w1.heap[b]? := fun b hb' =>
    kg.block b (c.old hx b hb') (fun e => by injection e with e; have := hm.low b hb'; omega)
  refine ⟨fs ++ [f], ho2, by simp; omega, by simp [hf], ?_, ?_, ?_, ?_⟩
  · intro j hj f' hf'
    simp only [List.length_append, List.length_cons, List.length_nil] at hj
    by_cases hjx : j < xs.length
    · rw [List.getElem?_append_left (by omega)] at hf'
      rw [List.getElem_append_left hjx]
      refine c.ext (fun i hi => ?_) (c.frame (fun b hb' => hfold b ?_) (hr j hjx f' hf'))
      · exact (setList_out _ _ _ _ (idx_lt hjx hi)).symm
      · exact List.mem_flatten.2 ⟨f', List.mem_of_getElem? hf', hb'⟩
    · have hje : j = xs.length := by omega
      subst hje
      rw [List.getElem?_append_right (by omega), hf, Nat.sub_self] at hf'
      simp only [List.getElem?_cons_zero, Option.some.injEq] at hf'
      subst hf'
      rw [List.getElem_append_right (Nat.le_refl _)]
      simp only [Nat.sub_self, List.getElem_cons_zero]
      refine c.ext (fun i hi => ?_) (c.frame hfx hx)
      have : xs.length * c.size + i < cells.length := by rw [hcl]; exact idx_lt hlen hi
      exact (setList_in _ _ _ _ (by omega) this).symm
  · rw [List.flatten_append, List.flatten_cons, List.flatten_nil, List.append_nil]
    refine (hmf.frame hfold).app ((hm.frame hfx).mono (by omega)) fun b hb' hb'' => ?_
    have := hlt b hb'
    have := hm.low b hb''
    omega
  · intro b hb'
    rw [List.flatten_append, List.mem_append] at hb'
    have hs := Nat.le_trans k.size kg.size
    rcases hb' with hb' | hb'
    · exact Nat.lt_of_lt_of_le (hlt b hb') hs
    · simp only [List.flatten_cons, List.flatten_nil, List.append_nil] at hb'
      exact Nat.lt_of_lt_of_le (c.old hx b hb') kg.size
  · intro b he hb'
    rw [List.flatten_append, List.mem_append] at hb'
    rcases hb' with hb' | hb'
    · exact hb b he hb'
    · simp only [List.flatten_cons, List.flatten_nil, List.append_nil] at hb'
      have := hm.low b hb'
      simp only [Value.ownBlock, Option.some.injEq] at he
      omega
end

theorem setCell_self {w : World} {g i : Nat} {v : Value} {cur : Array Value} {e : TypeId} {fr : Nat × Nat} (h : w.heap[g]? = some (.cells cur e fr)) (hc : cur[i]? = some v) : w.setCell ⟨g, i, none⟩ v = w := by
  have hs : cur.setIfInBounds i v = cur := by
    apply Array.ext_getElem?
    intro j
    rw [Array.getElem?_setIfInBounds]
    split
    · rename_i e
      subst e
      split
      · exact hc.symm
      · rename_i hn
        rw [Array.getElem?_eq_none (by omega)]
    · rfl
  have hh : (w.setCell ⟨g, i, none⟩ v).heap = w.heap := by
    apply Array.ext_getElem?
    intro j
    show (w.heap.modify g _)[j]? = _
    rw [Array.getElem?_modify]
    split
    · rename_i e
      subst e
      rw [h]
      simp [hs]
    · rfl
  show { w with heap := (w.setCell ⟨g, i, none⟩ v).heap } = w
  rw [hh]

/-- The cells behind a slice of cells. -/
theorem raw_cells {w : World} {ad : Addr} {n c : Nat} {l : List CellD} (h : Rd Cod.cell w (.slice (some ad) n c) l) (hn : l.length = n) :
    ∃ news : List Value, news.length = n * 2 ∧ (∀ j u, news[j]? = some u → w.cell? (ad.add j) = some u) ∧ (∀ u ∈ news, u.oneCell' = true) ∧
      ∀ j (hj : j < l.length), news[j * 2]? = some (.string l[j].Key) ∧ l[j].Key.size ≤ maxLen ∧ ∃ u, news[j * 2 + 1]? = some u ∧ Rd Cod.ver w u l[j].Vers := by
  obtain ⟨p, cap, e, _, _, r⟩ := h.form
  injection e with e1 _ _
  subst hn
  rcases Nat.eq_zero_or_pos l.length with h0 | hpos
  · exact ⟨[], by rw [h0]; rfl, by simp, by simp, fun j hj => by omega⟩
  · obtain ⟨g, o, e2, hg, hc⟩ := r hpos
    rw [e2] at e1
    injection e1 with e1
    subst e1
    have hcell : ∀ j (hj : j < l.length), w.cell? ⟨g, o + j * 2, none⟩ = some (.string l[j].Key) ∧ (∃ u, w.cell? ⟨g, o + j * 2 + 1, none⟩ = some u ∧ Rd Cod.ver w u l[j].Vers) ∧ l[j].Key.size ≤ maxLen := fun j hj => at_cell (hc j hj)
    have hone : ∀ i, i < l.length * 2 → ∃ u, w.cell? ⟨g, o + i, none⟩ = some u ∧ u.oneCell' = true := fun i hi => by
      obtain ⟨h1, ⟨u, h2, h3⟩, _⟩ := hcell (i / 2) (by omega)
      rcases Nat.mod_two_eq_zero_or_one i with hm | hm
      · refine ⟨.string l[i / 2].Key, ?_, by simp [Value.oneCell']⟩
        rw [show o + i = o + i / 2 * 2 from by omega]
        exact h1
      · refine ⟨u, ?_, ?_⟩
        · rw [show o + i = o + i / 2 * 2 + 1 from by omega]
          exact h2
        · obtain ⟨p', c', rfl, _⟩ := h3.form
          simp [Value.oneCell']
    refine ⟨cellsFrom w g o (l.length * 2), cellsFrom_length _ _ _ _, fun j u hu => ?_, fun u hu => ?_, fun j hj => ?_⟩
    · have hj : j < l.length * 2 := by
        have := (List.getElem?_eq_some_iff.1 hu).1
        rwa [cellsFrom_length] at this
      rw [cellsFrom_get hj] at hu
      obtain ⟨u', hu', _⟩ := hone j hj
      rw [WideShapes.add_plain, has_of hu', hu]
    · obtain ⟨j, hj, rfl⟩ := List.getElem_of_mem hu
      have hj' := hj
      rw [cellsFrom_length] at hj'
      have := cellsFrom_get (w := w) (b := g) (o := o) hj'
      rw [List.getElem?_eq_getElem hj] at this
      injection this with this
      obtain ⟨u', hu', ho'⟩ := hone j hj'
      have := has_of hu'
      rw [hu'] at this
      injection this with this
      simp_all
    · obtain ⟨h1, ⟨u, h2, h3⟩, h4⟩ := hcell j hj
      have e1 := cellsFrom_get (w := w) (b := g) (o := o) (n := l.length * 2) (i := j * 2) (by omega)
      have e2 := cellsFrom_get (w := w) (b := g) (o := o) (n := l.length * 2) (i := j * 2 + 1) (by omega)
      refine ⟨?_, h4, u, ?_, h3⟩
      · rw [e1, ← has_of h1, h1]
      · rw [e2]
        have := has_of h2
        rw [show o + (j * 2 + 1) = o + j * 2 + 1 from by omega, ← this, h2]

/-- What slices.Clone gives at cells. -/
def ClonePost (l : List CellD) (w : World) (e : Ending) (w' : World) : Prop := ∃ v' cells, e = .returned v' ∧ w'.ownsRow w.heap.size 57 2 v' l.length cells ∧
  (∀ j (hj : j < l.length), cells[j * 2]? = some (.string l[j].Key) ∧ l[j].Key.size ≤ maxLen ∧ ∃ u, cells[j * 2 + 1]? = some u ∧ Rd Cod.ver w u l[j].Vers) ∧ Below w.heap.size w w'

set_option maxRecDepth 100000 in
set_option maxHeartbeats 3200000 in
/-- slices.Clone at Cell -/
theorem cloneCell_any (v : Value) (l : List CellD) (hl : l.length ≤ 1048576) (w : World) (h : Rd Cod.cell w v l) :
    Calls Try.prog 75 #[v] w (ClonePost l w) := by
  obtain ⟨i0, hi, hz0, hz1, hz2⟩ := info_parts Try_infoO_cell
  obtain ⟨p, c, rfl, _, _, hn⟩ : ∃ p c, v = .slice p l.length c ∧ l.length ≤ c ∧ c ≤ maxLen ∧ (p = none → c = 0) := by
    obtain ⟨fp, a', cap, hv, h1, h2, h3, _⟩ := h
    exact ⟨a', cap, hv, h1, h2, h3⟩
  have heq := fun (W : World) (r : Option Addr) (n c : Nat) => Lib.run_eql_slice_nil (P := Try.prog) W 33 _ r n c 0 0 Try.underlying33
  rcases p with _ | ad
  · have hc0 := hn rfl
    subst hc0
    have hy : l = [] := List.eq_nil_of_length_eq_zero (by omega)
    subst hy
    clear h hn
    go_enter Try.func75, Try.ntmps75
    go_wp2
    go_ret
    exact ⟨_, [], rfl, World.ownsRow_nil _ _ _ _, (fun j hj => by simp at hj), Below.refl _ _⟩
  · clear hn
    obtain ⟨n, hn⟩ : ∃ n : Nat, l.length = n := ⟨_, rfl⟩
    have Hn := Lib.hid hn
    rw [hn] at h hl ⊢
    obtain ⟨news, n1, n2, n3, n4⟩ := raw_cells h hn
    have N2 : Hid (∀ j u, news[j]? = some u → (w.alloc (.cells #[] 57)).cell? (ad.add j) = some u) := Lib.hid fun j u hj => by
      have hlt : (ad.add j).block < w.heap.size := World.block_lt_of_cell? w _ (n2 j u hj)
      rw [World.cell?_of_block (a := ad.add j) (Below.heap_alloc _ _ _ hlt)]
      exact n2 j u hj
    have N4 := Lib.hid n4
    have N3 := Lib.hid n3
    have N1 := Lib.hid n1
    clear h hn n1 n2 n3 n4
    go_enter Try.func75, Try.ntmps75
    go_wp2_with (at_builtin; refine wpList_append_own_at _ rfl _ _ 33 (by rfl) w.heap.size 57 i0 _ 2 40 Try.underlying33 hi hz0 hz1 hz2 rfl (by decide) (.slice (some ⟨w.heap.size, 0, none⟩) 0 0) 0 [] (by rfl) (made0 rfl (Nat.le_refl _)) ad n c news (by rfl) N1.out N2.out N3.out (by unfold maxLen; omega) (by omega) (by simp) ?_)
    intro v' w' ho hg _ _
    have HF : Hid (ClonePost l w (.returned v') w') := Lib.hid ⟨v', news, rfl, by rw [Hn.out]; simpa using ho, N4.out, (below_new _ _).trans (Below.grown (Below.refl _ _) hg (by simp) fun j hj => by
      have : j = w.heap.size := (Option.some.inj hj).symm
      omega)⟩
    clear ho hg
    go_wp2
    go_ret
    exact HF.out

/-- What copyCells keeps: the first k cells are the call's own, the others are as they came. -/
structure CpInv (W0 : World) (base : Nat) (l : List CellD) (g n cap k : Nat) (cells : List Value) (wr : World) : Prop where
  part : PartC Cod.cellR wr base 57 (.slice (some ⟨g, 0, none⟩) n cap) n (l.take k) cells
  rest : ∀ j (hj : j < l.length), k ≤ j → cells[j * 2]? = some (.string l[j].Key) ∧ l[j].Key.size ≤ maxLen ∧ ∃ u, cells[j * 2 + 1]? = some u ∧ Rd Cod.ver W0 u l[j].Vers

theorem cp_next {W0 wr w3 : World} {base g n cap k : Nat} {l : List CellD} {cells : List Value} (h : CpInv W0 base l g n cap k cells wr) (hk : k < l.length) (hn : l.length = n) (k3 : Below wr.heap.size wr w3) {v' : Value} (o : OwnR Cod.ver w3 wr.heap.size v' l[k].Vers) :
    ∃ cells', CpInv W0 base l g n cap (k + 1) cells' (w3.setCell ⟨g, k * 2 + 1, none⟩ v') := by
  obtain ⟨f, hR, hM⟩ := o
  obtain ⟨h1, h2, u, h3, _⟩ := h.rest k hk (Nat.le_refl _)
  have hlen : (l.take k).length = k := by rw [List.length_take]; omega
  have ho := h.part.choose_spec.1
  have ho3 := own_below ho k3
  have hcl : cells.length = n * 2 := ho.1
  obtain ⟨_, cur, hgb, hnc, _, hcs, _⟩ := own_some ho3
  have hs := h.part.setX k3 (x := ⟨l[k].Key, l[k].Vers⟩) (vs := [.string l[k].Key, v']) (f := f) rfl (mk_cellR h2 hR) hM (by omega)
  have hkey : cur[k * 2]? = some (.string l[k].Key) := by
    have e1 := ho3.cellAt (g := g) (k * 2) (by show k * 2 < n * 2; omega)
    simp only [World.cell?, hgb] at e1
    exact e1.trans h1
  have hself : w3.setCell ⟨g, k * 2, none⟩ (.string l[k].Key) = w3 := setCell_self hgb hkey
  have hw : setMany w3 g ((l.take k).length * Cod.cellR.size) [.string l[k].Key, v'] = w3.setCell ⟨g, k * 2 + 1, none⟩ v' := by
    rw [hlen]
    show (w3.setCell ⟨g, k * 2, none⟩ (.string l[k].Key)).setCell ⟨g, k * 2 + 1, none⟩ v' = _
    rw [hself]
  rw [hw] at hs
  refine ⟨_, by rw [List.take_succ_eq_append_getElem hk]; exact hs, fun j hj hkj => ?_⟩
  obtain ⟨q1, q2, u, q3, q4⟩ := h.rest j hj (by omega)
  rw [hlen]
  refine ⟨?_, q2, u, ?_, q4⟩
  · rw [setList_behind _ _ _ _ (by show k * 2 + 2 ≤ j * 2; omega)]
    exact q1
  · rw [setList_behind _ _ _ _ (by show k * 2 + 2 ≤ j * 2 + 1; omega)]
    exact q3

set_option maxRecDepth 100000 in
set_option maxHeartbeats 6400000 in
/-- impl.copyCells -/
theorem copyCellsC_any (v : Value) (l : List CellD) (hl : costCellS l ≤ 1048576) (w : World) (h : Rd Cod.cell w v l) :
    Calls Try.prog 60 #[v] w fun e w' => ∃ v' cells, e = .returned v' ∧ PartC Cod.cellR w' w.heap.size 57 v' l.length l cells ∧ Below w.heap.size w w' := by
  have hnb : l.length ≤ 1048576 := by unfold costCellS at hl; omega
  have Hlen : Hid (∀ k (h : k < l.length), l[k].Vers.length ≤ 1048576) := Lib.hid fun k hk => by
    have q1 := sumC_get costCell l k hk
    have q2 : costCell l[k] = l[k].Key.size + costVerS l[k].Vers := rfl
    unfold costCellS at hl
    unfold costVerS at q2
    omega
  have Hc := Lib.hid (cloneCell_any v l hnb w h)
  obtain ⟨n, hn⟩ : ∃ n, l.length = n := ⟨_, rfl⟩
  have Hn := Lib.hid hn
  rw [hn] at hnb ⊢
  have hnI : (n : Int) ≤ 1048576 := by omega
  clear h hl hn
  go_enter Try.func60, Try.ntmps60
  go_wp2_with fail
  refine Hc.out.mono ?_
  rintro e w1 ⟨v', cells, rfl, ho, hce, k1⟩
  rw [Hn.out] at ho
  rcases own_forms ho with ⟨rfl, h0⟩ | ⟨g, cap, rfl⟩
  · subst h0
    have hl0 : l = [] := List.eq_nil_of_length_eq_zero Hn.out
    have HP : Hid (∃ cells, PartC Cod.cellR w1 w.heap.size 57 (.slice none 0 0) 0 l cells) := Lib.hid (by rw [hl0]; exact ⟨[], part_start (World.ownsRow_nil _ _ _ _)⟩)
    clear hce ho Hc hl0
    go_wp2
    go_loopw [9] (fun i wr => i = .int .i64 0 ∧ wr = w1) (fun _ _ => 0)
    case atStart => exact ⟨rfl, rfl⟩
    case round =>
      obtain ⟨rfl, rfl⟩ := hrel
      go_wp2
      go_ret
      obtain ⟨cs, hp⟩ := HP.out
      exact ⟨_, cs, rfl, hp, k1⟩
  · have HI : Hid (CpInv w w.heap.size l g n cap 0 cells w1) := Lib.hid ⟨part_start ho, fun j hj _ => hce j hj⟩
    obtain ⟨_, cur, hgb, hnc, hcm, _⟩ := own_some ho
    have hglo := (ho.lt g rfl).1
    have hglt := (ho.lt g rfl).2
    clear hce ho Hc hgb
    go_wp2
    go_loopw [9] (fun i wr => ∃ (k : Nat) (cs : List Value), i = .int .i64 (k : Int) ∧ k ≤ n ∧ Hid (CpInv w w.heap.size l g n cap k cs wr) ∧ g < wr.heap.size ∧ Below w.heap.size w wr) (fun i _ => n - (intOf i).toNat)
    case atStart => exact ⟨0, cells, rfl, Nat.zero_le _, HI, hglt, k1⟩
    case round =>
      obtain ⟨k, cs, rfl, hk, Hv, hgl, hb⟩ := hrel
      clear HI hglt k1
      by_cases hlt : k < n
      · have hltI : (k : Int) < (n : Int) := by omega
        have hkl : k < l.length := by have := Hn.out; omega
        obtain ⟨q1, q2, u, hu, hru⟩ := Hv.out.rest k hkl (Nat.le_refl _)
        have ho := Hv.out.part.choose_spec.1
        have d1 : wr.cell? ⟨g, k * 2 + 1, none⟩ = some u := by rw [ho.cellAt (k * 2 + 1) (by show k * 2 + 1 < n * 2; omega)]; exact hu
        have Hnext := Lib.hid (fun (w3 : World) (k3 : Below wr.heap.size wr w3) (v' : Value) (o : OwnR Cod.ver w3 wr.heap.size v' l[k].Vers) => cp_next Hv.out hkl Hn.out k3 o)
        have Hcl := Lib.hid (cloneVer_p u l[k].Vers (Hlen.out k hkl) wr (hru.below hb))
        obtain ⟨pu, cu, rfl, _⟩ := hru.form
        have Ho := Lib.hid ho
        generalize l[k].Vers = V at *
        clear q1 q2 hu hru Hv ho
        clear hkl
        go_wp2_with fail
        refine Hcl.out.mono ?_
        rintro e w3 ⟨v', cells3, rfl, hP3, k3⟩
        obtain ⟨p3, c3, rfl⟩ := hP3.form
        obtain ⟨cs', hnx⟩ := Hnext.out w3 k3 _ (hP3.ownR rfl)
        have HN := Lib.hid hnx
        have d3 : w3.cell? ⟨g, k * 2 + 1, none⟩ = some (.slice pu V.length cu) := cell_step k3 d1
        have f3 := (own_below Ho.out k3).frozenAt (g := g) (k * 2 + 1)
        have hb3 : Below w.heap.size w w3 := below_after k3 hb
        have hg3 : g < w3.heap.size := Nat.lt_of_lt_of_le hgl k3.size
        clear hP3 hnx Hnext Hcl d1 Ho
        go_wp2
        go_roundw
        case rel => exact ⟨k + 1, cs', by go_num, by omega, HN, by simp; exact hg3, hb3.setCell hglo _⟩
        case measure => simp [intOf]; omega
      · have hltI : (n : Int) ≤ (k : Int) := by omega
        obtain rfl : k = n := by omega
        have HP : Hid (PartC Cod.cellR wr w.heap.size 57 (.slice (some ⟨g, 0, none⟩) k cap) k l cs) := Lib.hid (by have := Hv.out.part; rwa [List.take_of_length_le (by have := Hn.out; omega)] at this)
        clear Hv
        go_wp2
        go_ret
        exact ⟨_, cs, rfl, HP.out, hb⟩

end Go.Proofs.Ytkcidneefdaaiaa
