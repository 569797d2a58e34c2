/- A row of the call's own: an element put into the middle, an element laid anew. Plain lemmas; no program. -/
import Derived.Test.YtpiheobpobclgaaGreatDoorRowd
import Derived.Laws.IdiomCopy
namespace Go.Proofs.YtpiheobpobclgaaGreatDoor
open Go.RowKit

theorem setCells_heap_same (b : Nat) (e : TypeId) (fr : Nat × Nat) : ∀ (vs : List Value) (o : Nat) (w : World) (cur : Array Value), w.heap[b]? = some (.cells cur e fr) → ∃ cur', (w.setCells b o vs).heap[b]? = some (.cells cur' e fr) ∧ cur'.size = cur.size
  | [], _, _, cur, h => ⟨cur, h, rfl⟩
  | v :: r, o, w, cur, h => by
    have h1 : (w.setCell ⟨b, o, none⟩ v).heap[b]? = some (.cells (cur.setIfInBounds o v) e fr) := by
      simp [World.setCell, Array.getElem?_modify, h]
    obtain ⟨cur', h2, h3⟩ := setCells_heap_same b e fr r (o + 1) _ _ h1
    exact ⟨cur', h2, by simpa using h3⟩
theorem grown_setCells (b : Nat) : ∀ (vs : List Value) (o : Nat) (w : World), w.grownBy (w.setCells b o vs) (some b)
  | [], _, _ => ⟨rfl, rfl, rfl, Nat.le_refl _, fun _ _ _ => rfl⟩
  | v :: r, o, w => by
    have h := grown_setCells b r (o + 1) (w.setCell ⟨b, o, none⟩ v)
    have hs : w.heap.size ≤ (w.setCell ⟨b, o, none⟩ v).heap.size := by simp
    exact ⟨h.os, h.tape, h.output, Nat.le_trans hs h.size, fun k hk hne =>
      (h.block k (Nat.lt_of_lt_of_le hk hs) hne).trans (heap_setCell_other w ⟨b, o, none⟩ k v (fun e => hne (by rw [e])))⟩
theorem grownBy_trans {a b d : World} {r : Option Nat} (h : a.grownBy b r) (k : b.grownBy d r) : a.grownBy d r :=
  ⟨k.os.trans h.os, k.tape.trans h.tape, k.output.trans h.output, Nat.le_trans h.size k.size, fun i hi hne => (k.block i (Nat.lt_of_lt_of_le hi h.size) hne).trans (h.block i hi hne)⟩

/-- Cells of a row of the call's own laid anew, within its room. -/
theorem own_setCells {w : World} {base : Nat} {e : TypeId} {sz g n cap : Nat} {cells : List Value} (h : w.ownsRow base e sz (.slice (some ⟨g, 0, none⟩) n cap) n cells) (o : Nat) (vs : List Value) (m : Nat) (hm : m ≤ cap)
    (news : List Value) (hl : news.length = m * sz) (hv : o + vs.length ≤ m * sz)
    (hin : ∀ j, o ≤ j → j < o + vs.length → news[j]? = vs[j - o]?) (hout : ∀ j, j < m * sz → (j < o ∨ o + vs.length ≤ j) → j < n * sz ∧ news[j]? = cells[j]?) :
    (w.setCells g o vs).ownsRow base e sz (.slice (some ⟨g, 0, none⟩) m cap) m news ∧ w.grownBy (w.setCells g o vs) (some g) := by
  have hcellAt := h.cellAt
  refine ⟨⟨hl, ?_⟩, grown_setCells _ _ _ _⟩
  rcases h.2 with ⟨h0, _⟩ | ⟨g', cap', cur, e1, hg, hgb, hc1, hc2, hc3, hc4⟩
  · cases h0
  · injection e1 with e1 e2 e3
    injection e1 with e1
    injection e1 with e1
    subst e1 e3
    obtain ⟨cur', q1, q2⟩ := setCells_heap_same g e (0, 0) vs o w cur hgb
    refine Or.inr ⟨g, cap, cur', rfl, hg, q1, hm, hc2, by rw [q2, hc3], ?_⟩
    have hmc : m * sz ≤ cap * sz := Nat.mul_le_mul_right _ hm
    have hold : ∀ j, w.cell? ⟨g, j, none⟩ = cur[j]? := fun j => by simp [World.cell?, hgb]
    have hnew : ∀ j, (w.setCells g o vs).cell? ⟨g, j, none⟩ = cur'[j]? := fun j => by simp [World.cell?, q1]
    have hsome : ∀ j, j < vs.length → (w.cell? ⟨g, o + j, none⟩).isSome = true := fun j hj => by
      rw [hold, Array.getElem?_eq_getElem (by omega)]
      rfl
    apply List.ext_getElem?
    intro j
    by_cases hj : j < m * sz
    · rw [List.getElem?_take_of_lt hj, Array.getElem?_toList, ← hnew]
      by_cases hjo : o ≤ j ∧ j < o + vs.length
      · have hs := World.cell?_setCells_in g vs o w hsome (j - o) (by omega)
        rw [show o + (j - o) = j from by omega] at hs
        rw [hs, hin j hjo.1 hjo.2, List.getElem?_eq_getElem]
      · rw [World.cell?_setCells_out g vs o w ⟨g, j, none⟩ (fun _ _ => by show j < o ∨ o + vs.length ≤ j; omega)]
        obtain ⟨h1, h2⟩ := hout j hj (by omega)
        rw [h2, hold, ← hc4, List.getElem?_take_of_lt h1, Array.getElem?_toList]
    · rw [List.getElem?_eq_none (by rw [List.length_take, Array.length_toList]; omega), List.getElem?_eq_none (by omega)]

/-- Room, in the middle: what stands behind is moved up, the new cells are laid. -/
theorem own_shift {w : World} {base : Nat} {e : TypeId} {sz g n cap i : Nat} {cells cs : List Value} (h : w.ownsRow base e sz (.slice (some ⟨g, 0, none⟩) n cap) n cells) (hi : i < n) (hr : n + 1 ≤ cap) (hcs : cs.length = sz) :
    ((w.setCells g ((i + 1) * sz) (cells.drop (i * sz))).setCells g (i * sz) cs).ownsRow base e sz (.slice (some ⟨g, 0, none⟩) (n + 1) cap) (n + 1) (cells.take (i * sz) ++ (cs ++ cells.drop (i * sz))) ∧
    w.grownBy ((w.setCells g ((i + 1) * sz) (cells.drop (i * sz))).setCells g (i * sz) cs) (some g) ∧
    ((w.setCells g ((i + 1) * sz) (cells.drop (i * sz))).ownsRow base e sz (.slice (some ⟨g, 0, none⟩) (n + 1) cap) (n + 1) (cells.take ((i + 1) * sz) ++ cells.drop (i * sz))) := by
  have hl : cells.length = n * sz := h.1
  have e1 : (i + 1) * sz = i * sz + sz := Nat.succ_mul i sz
  have e2 : (n + 1) * sz = n * sz + sz := Nat.succ_mul n sz
  have e3 : (i + 1) * sz ≤ n * sz := Nat.mul_le_mul_right _ hi
  rw [e1] at e3 ⊢
  generalize i * sz = I at *
  obtain ⟨o1, k1⟩ := own_setCells h (I + sz) (cells.drop I) (n + 1) hr (cells.take (I + sz) ++ cells.drop I) (by rw [List.length_append, List.length_take, List.length_drop]; omega) (by rw [List.length_drop]; omega)
    (fun j h1 h2 => by rw [List.getElem?_append_right (by rw [List.length_take]; omega), List.length_take, Nat.min_eq_left (by omega)])
    (fun j h1 h2 => by
      rw [List.length_drop] at h2
      refine ⟨by omega, ?_⟩
      rw [List.getElem?_append_left (by rw [List.length_take]; omega), List.getElem?_take_of_lt (by omega)])
  obtain ⟨o2, k2⟩ := own_setCells o1 I cs (n + 1) hr (cells.take I ++ (cs ++ cells.drop I)) (by rw [List.length_append, List.length_append, List.length_take, List.length_drop]; omega) (by omega)
    (fun j h1 h2 => by rw [List.getElem?_append_right (by rw [List.length_take]; omega), List.length_take, Nat.min_eq_left (by omega), List.getElem?_append_left (by omega)])
    (fun j h1 h2 => by
      refine ⟨h1, ?_⟩
      rcases h2 with h2 | h2
      · rw [List.getElem?_append_left (by rw [List.length_take]; omega), List.getElem?_take_of_lt h2, List.getElem?_append_left (by rw [List.length_take]; omega), List.getElem?_take_of_lt (by omega)]
      · rw [List.getElem?_append_right (by rw [List.length_take]; omega), List.length_take, Nat.min_eq_left (by omega), List.getElem?_append_right (by omega), List.getElem?_append_right (by rw [List.length_take]; omega), List.length_take, Nat.min_eq_left (by omega), hcs]
        congr 1
        omega)
  exact ⟨o2, grownBy_trans k1 k2, o1⟩

/-- A row made anew: the new cells and what stood behind are laid into it. -/
theorem own_two {w : World} {base : Nat} {e : TypeId} {sz g n cap i : Nat} {olds cells cs : List Value} (h : w.ownsRow base e sz (.slice (some ⟨g, 0, none⟩) (n + 1) cap) (n + 1) olds) (hold : olds.take (i * sz) = cells.take (i * sz)) (hl : cells.length = n * sz) (hi : i ≤ n) (hcs : cs.length = sz) :
    ((w.setCells g (i * sz) cs).setCells g ((i + 1) * sz) (cells.drop (i * sz))).ownsRow base e sz (.slice (some ⟨g, 0, none⟩) (n + 1) cap) (n + 1) (cells.take (i * sz) ++ (cs ++ cells.drop (i * sz))) ∧
    w.grownBy ((w.setCells g (i * sz) cs).setCells g ((i + 1) * sz) (cells.drop (i * sz))) (some g) ∧
    (w.setCells g (i * sz) cs).ownsRow base e sz (.slice (some ⟨g, 0, none⟩) (n + 1) cap) (n + 1) (cells.take (i * sz) ++ (cs ++ olds.drop ((i + 1) * sz))) := by
  have ho : olds.length = (n + 1) * sz := h.1
  have hr : n + 1 ≤ cap := by
    rcases h.2 with ⟨h0, _⟩ | ⟨g', cap', cur, e1, _, _, hc1, _⟩
    · cases h0
    · injection e1 with _ _ e3
      omega
  have e1 : (i + 1) * sz = i * sz + sz := Nat.succ_mul i sz
  have e2 : (n + 1) * sz = n * sz + sz := Nat.succ_mul n sz
  have e3 : i * sz ≤ n * sz := Nat.mul_le_mul_right _ hi
  have hold2 : ∀ j, j < i * sz → cells[j]? = olds[j]? := fun j hj => by
    have := congrArg (fun q => q[j]?) hold
    simp only [List.getElem?_take_of_lt hj] at this
    exact this.symm
  rw [e1]
  generalize i * sz = I at *
  obtain ⟨o1, k1⟩ := own_setCells h I cs (n + 1) hr (cells.take I ++ (cs ++ olds.drop (I + sz))) (by rw [List.length_append, List.length_append, List.length_take, List.length_drop]; omega) (by omega)
    (fun j h1 h2 => by rw [List.getElem?_append_right (by rw [List.length_take]; omega), List.length_take, Nat.min_eq_left (by omega), List.getElem?_append_left (by omega)])
    (fun j h1 h2 => by
      refine ⟨by omega, ?_⟩
      rcases h2 with h2 | h2
      · rw [List.getElem?_append_left (by rw [List.length_take]; omega), List.getElem?_take_of_lt h2, hold2 j h2]
      · rw [List.getElem?_append_right (by rw [List.length_take]; omega), List.length_take, Nat.min_eq_left (by omega), List.getElem?_append_right (by omega), List.getElem?_drop]
        congr 1
        omega)
  obtain ⟨o2, k2⟩ := own_setCells o1 (I + sz) (cells.drop I) (n + 1) hr (cells.take I ++ (cs ++ cells.drop I)) (by rw [List.length_append, List.length_append, List.length_take, List.length_drop]; omega) (by rw [List.length_drop]; omega)
    (fun j h1 h2 => by
      rw [List.getElem?_append_right (by rw [List.length_take]; omega), List.length_take, Nat.min_eq_left (by omega), List.getElem?_append_right (by omega)]
      congr 1
      omega)
    (fun j h1 h2 => by
      rw [List.length_drop] at h2
      refine ⟨h1, ?_⟩
      by_cases hj : j < I
      · rw [List.getElem?_append_left (by rw [List.length_take]; omega), List.getElem?_append_left (by rw [List.length_take]; omega)]
      · rw [List.getElem?_append_right (by rw [List.length_take]; omega), List.length_take, Nat.min_eq_left (by omega), List.getElem?_append_left (by omega), List.getElem?_append_right (by rw [List.length_take]; omega), List.length_take, Nat.min_eq_left (by omega), List.getElem?_append_left (by omega)])
  exact ⟨o2, grownBy_trans k1 k2, o1⟩

theorem own_some {w : World} {base : Nat} {e : TypeId} {sz g n m cap : Nat} {cells : List Value} (h : w.ownsRow base e sz (.slice (some ⟨g, 0, none⟩) n cap) m cells) : m = n ∧ ∃ cur, w.heap[g]? = some (.cells cur e (0, 0)) ∧ n ≤ cap ∧ cap ≤ maxLen ∧ cur.size = cap * sz ∧ base ≤ g ∧ (∀ j, j < cap * sz → (w.cell? ⟨g, j, none⟩).isSome = true) ∧ (∀ j, w.frozen? ⟨g, j, none⟩ = false) := by
  rcases h.2 with ⟨h0, _⟩ | ⟨g', cap', cur, e1, hg, hgb, hc1, hc2, hc3, hc4⟩
  · cases h0
  · injection e1 with e1 e2 e3
    injection e1 with e1
    injection e1 with e1
    subst e1 e3 e2
    exact ⟨rfl, cur, hgb, hc1, hc2, hc3, hg, fun j hj => by simp only [World.cell?, hgb]; rw [Array.getElem?_eq_getElem (by omega)]; rfl, fun j => by simp [World.frozen?, hgb]⟩

section
variable {α : Type} {c : Cod α} {w w2 : World}

theorem flatten_mid (fs : List (List Nat)) (i : Nat) : (fs.take i ++ ([] : List Nat) :: fs.drop i).flatten = fs.flatten := by
  rw [List.flatten_append, List.flatten_cons, List.nil_append, ← List.flatten_append, List.take_append_drop]

/-- An element put into the middle. -/
theorem PartC.insert {base : Nat} {e : TypeId} {v v' : Value} {n i : Nat} {xs : List α} {cells cs : List Value} {x : α} (h : PartC c w base e v n xs cells) (hlen : xs.length = n) (hi : i ≤ n) (hcl : cs.length = c.size)
    (hrd : c.rd w2 (lst cs) x []) (ho2 : w2.ownsRow base e c.size v' (n + 1) (cells.take (i * c.size) ++ (cs ++ cells.drop (i * c.size)))) (kg : w.grownBy w2 v.ownBlock)
    (hv' : v'.ownBlock = v.ownBlock ∨ ∀ b, v'.ownBlock = some b → w.heap.size ≤ b) :
    PartC c w2 base e v' (n + 1) (xs.take i ++ x :: xs.drop i) (cells.take (i * c.size) ++ (cs ++ cells.drop (i * c.size))) := by
  obtain ⟨fs, ho, hl, hf, hr, hmf, hlt, hb⟩ := h
  have hcells : cells.length = n * c.size := ho.1
  have hin : i * c.size ≤ n * c.size := Nat.mul_le_mul_right _ hi
  have htl : (cells.take (i * c.size)).length = i * c.size := by rw [List.length_take]; omega
  subst hlen
  have hfold : ∀ b ∈ fs.flatten, w2.heap[b]? = w.heap[b]? := fun b hb' => kg.block b (hlt b hb') (fun e => hb b e.symm hb')
  have hread : ∀ (k : Nat) (hk : k < xs.length) (f : List Nat), fs[k]? = some f → ∀ (off : Nat), (∀ q, q < c.size → (cells.take (i * c.size) ++ (cs ++ cells.drop (i * c.size)))[off + q]? = cells[k * c.size + q]?) →
      c.rd w2 (fun q => (cells.take (i * c.size) ++ (cs ++ cells.drop (i * c.size)))[off + q]?) xs[k] f := fun k hk f hkf off heq => by
    refine c.ext (fun q hq => (heq q hq).symm) (c.frame (fun b hb' => hfold b ?_) (hr k hk f hkf))
    exact List.mem_flatten.2 ⟨f, List.mem_of_getElem? hkf, hb'⟩
  refine ⟨fs.take i ++ [] :: fs.drop i, ho2, by simp; omega, by simp; omega, ?_, ?_, ?_, ?_⟩
  · intro k hk f hkf
    have hk' : k < xs.length + 1 := by
      simp only [List.length_append, List.length_take, List.length_cons, List.length_drop] at hk
      omega
    have htx : (xs.take i).length = i := by rw [List.length_take]; omega
    have htf : (fs.take i).length = i := by rw [List.length_take]; omega
    rcases Nat.lt_trichotomy k i with hki | hki | hki
    · rw [List.getElem?_append_left (by omega), List.getElem?_take_of_lt hki] at hkf
      rw [List.getElem_append_left (by omega), List.getElem_take]
      refine hread k (by omega) f hkf (k * c.size) fun q hq => ?_
      have := idx_lt hki hq
      rw [List.getElem?_append_left (by omega), List.getElem?_take_of_lt this]
    · subst hki
      rw [List.getElem?_append_right (by omega), htf, Nat.sub_self, List.getElem?_cons_zero] at hkf
      injection hkf with hkf
      subst hkf
      rw [List.getElem_append_right (by omega)]
      simp only [htx, Nat.sub_self, List.getElem_cons_zero]
      refine c.ext (fun q hq => ?_) hrd
      rw [List.getElem?_append_right (by omega), htl, List.getElem?_append_left (by omega), Nat.add_sub_cancel_left]
      rfl
    · obtain ⟨d, rfl⟩ : ∃ d, k = i + 1 + d := ⟨k - (i + 1), by omega⟩
      rw [List.getElem?_append_right (by omega), htf, show i + 1 + d - i = d + 1 from by omega, List.getElem?_cons_succ, List.getElem?_drop] at hkf
      have e1 : (xs.take i ++ x :: xs.drop i)[i + 1 + d] = xs[i + d]'(by omega) := by
        rw [List.getElem_append_right (by omega)]
        simp only [htx, show i + 1 + d - i = d + 1 from by omega, List.getElem_cons_succ, List.getElem_drop]
      rw [e1]
      refine hread (i + d) (by omega) f hkf ((i + 1 + d) * c.size) fun q hq => ?_
      have e2 : (i + 1 + d) * c.size = i * c.size + c.size + d * c.size := by rw [Nat.add_mul, Nat.add_mul, Nat.one_mul]
      have e3 : (i + d) * c.size = i * c.size + d * c.size := by rw [Nat.add_mul]
      rw [e2, e3, List.getElem?_append_right (by omega), htl, List.getElem?_append_right (by omega), List.getElem?_drop, hcl]
      congr 1
      omega
  · rw [flatten_mid]; exact hmf.frame hfold
  · rw [flatten_mid]; exact fun b hb' => Nat.lt_of_lt_of_le (hlt b hb') kg.size
  · rw [flatten_mid]
    intro b he hb'
    rcases hv' with e' | e'
    · exact hb b (e' ▸ he) hb'
    · have := e' b he
      have := hlt b hb'
      omega

theorem setList_behind : ∀ (vs : List Value) (cells : List Value) (o j : Nat), o + vs.length ≤ j → (setList cells o vs)[j]? = cells[j]?
  | [], _, _, _, _ => rfl
  | u :: us, cells, o, j, h => by
    simp only [List.length_cons] at h
    rw [setList, setList_behind us _ _ _ (by omega), List.getElem?_set_ne (by omega)]
theorem set_flatten_sub : ∀ (fs : List (List Nat)) (i : Nat), List.Sublist (fs.set i []).flatten fs.flatten
  | [], _ => by simp
  | f :: r, 0 => by simp
  | f :: r, i + 1 => by
    simp only [List.set_cons_succ, List.flatten_cons]
    exact List.Sublist.append (List.Sublist.refl _) (set_flatten_sub r i)

/-- An element laid anew, one that leads nowhere. -/
theorem PartC.setAt {base : Nat} {e : TypeId} {g n cap i : Nat} {xs : List α} {cells cs : List Value} {x : α} (h : PartC c w base e (.slice (some ⟨g, 0, none⟩) n cap) n xs cells) (hi : i < xs.length) (hcl : cs.length = c.size)
    (hrd : c.rd (setMany w g (i * c.size) cs) (lst cs) x []) :
    PartC c (setMany w g (i * c.size) cs) base e (.slice (some ⟨g, 0, none⟩) n cap) n (xs.set i x) (setList cells (i * c.size) cs) ∧ w.grownBy (setMany w g (i * c.size) cs) (some g) := by
  obtain ⟨fs, ho, hl, hf, hr, hmf, hlt, hb⟩ := h
  obtain ⟨ho2, kg⟩ := setMany_owns cs (i * c.size) ho
  have hcells : cells.length = n * c.size := ho.1
  have hfold : ∀ b ∈ fs.flatten, (setMany w g (i * c.size) cs).heap[b]? = w.heap[b]? := fun b hb' =>
    kg.block b (hlt b hb') (fun e => by injection e with e; subst e; exact hb _ rfl hb')
  have hsub := set_flatten_sub fs i
  refine ⟨⟨fs.set i [], ho2, by simpa using hl, by simpa using hf, ?_, ?_, ?_, ?_⟩, kg⟩
  · intro k hk f hkf
    have hk' : k < xs.length := by simpa using hk
    by_cases hki : k = i
    · subst hki
      rw [List.getElem?_set_self (by omega)] at hkf
      injection hkf with hkf
      subst hkf
      rw [List.getElem_set_self]
      refine c.ext (fun q hq => ?_) hrd
      have : k * c.size + q < cells.length := by rw [hcells]; exact idx_lt (by omega) hq
      exact (setList_in _ _ _ _ (by omega) this).symm
    · rw [List.getElem?_set_ne (fun e => hki e.symm)] at hkf
      rw [List.getElem_set_ne (fun e => hki e.symm)]
      refine c.ext (fun q hq => ?_) (c.frame (fun b hb' => hfold b (List.mem_flatten.2 ⟨f, List.mem_of_getElem? hkf, hb'⟩)) (hr k hk' f hkf))
      rcases Nat.lt_or_ge k i with hlt' | hge
      · exact (setList_out _ _ _ _ (idx_lt hlt' hq)).symm
      · have hge2 : (i + 1) * c.size ≤ k * c.size := Nat.mul_le_mul_right _ (by omega)
        rw [Nat.add_mul, Nat.one_mul] at hge2
        exact (setList_behind cs cells (i * c.size) _ (by omega)).symm
  · refine (Mine.frame ⟨hmf.nodup.sublist hsub, fun b hb' => hmf.low b (hsub.subset hb'), fun b hb' => hmf.free b (hsub.subset hb')⟩ fun b hb' => hfold b (hsub.subset hb'))
  · exact fun b hb' => Nat.lt_of_lt_of_le (hlt b (hsub.subset hb')) kg.size
  · exact fun b he hb' => hb b he (hsub.subset hb')
end

end Go.Proofs.YtpiheobpobclgaaGreatDoor
