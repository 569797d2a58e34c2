/- Rows of data: read, kept, owned, built. Plain lemmas; no program. -/
import Derived.Test.YtekgackednpdgaaCod
import Derived.Test.YtekgackednpdgaaFrames
namespace Go.Proofs.Ytekgackednpdgaa
open Go.RowKit

section
variable {α : Type} {c : Cod α} {w w' : World}

/-- A slice that reads as xs. -/
def Rd (c : Cod α) (w : World) (v : Value) (xs : List α) : Prop := ∃ fp, Cod.rdS c w v xs fp

theorem Rd.below {v : Value} {xs : List α} (h : Rd c w v xs) (k : Below w.heap.size w w') : Rd c w' v xs := by
  obtain ⟨fp, h⟩ := h
  exact ⟨fp, Cod.rdS_frame c (fun b hb => k.block b (Cod.rdS_old c h b hb)) h⟩

/-- What lies from g, o on. -/
def At (c : Cod α) (w : World) (g o : Nat) (x : α) : Prop := ∃ f, c.rd w (cellsAt w g o) x f

theorem At.below {g o : Nat} {x : α} (h : At c w g o x) (hg : g < w.heap.size) (k : Below w.heap.size w w') : At c w' g o x := by
  obtain ⟨f, h⟩ := h
  refine ⟨f, ?_⟩
  rw [Cod.cellsAt_of_block (k.block g hg)]
  exact c.frame (fun b hb => k.block b (c.old h b hb)) h

theorem Rd.form {v : Value} {xs : List α} (h : Rd c w v xs) : ∃ p cap, v = .slice p xs.length cap ∧ xs.length ≤ cap ∧ cap ≤ maxLen ∧
    (0 < xs.length → ∃ g o, p = some ⟨g, o, none⟩ ∧ g < w.heap.size ∧ ∀ j (h : j < xs.length), At c w g (o + j * c.size) xs[j]) := by
  obtain ⟨fp, a, cap, rfl, h1, h2, _, h4⟩ := h
  refine ⟨a, cap, rfl, h1, h2, fun hpos => ?_⟩
  rcases h4 with ⟨rfl, _⟩ | ⟨b, off, fs, ha, _, hb, he⟩
  · simp at hpos
  · refine ⟨b, off, ha, hb, fun j hj => ?_⟩
    obtain ⟨f, _, h1⟩ := Cod.elems_at _ he j hj
    exact ⟨f, h1⟩

/-- Blocks of the call's own: from base on, none twice, none frozen. -/
structure Mine (w : World) (base : Nat) (fp : List Nat) : Prop where
  nodup : fp.Nodup
  low : ∀ b ∈ fp, base ≤ b
  free : ∀ b ∈ fp, ∀ o, w.frozen? ⟨b, o, none⟩ = false

theorem Mine.nil (w : World) (base : Nat) : Mine w base [] := ⟨List.nodup_nil, (fun _ h => by cases h), (fun _ h => by cases h)⟩

theorem Mine.frame {base : Nat} {fp : List Nat} (h : Mine w base fp) (k : ∀ b ∈ fp, w'.heap[b]? = w.heap[b]?) : Mine w' base fp :=
  ⟨h.nodup, h.low, fun b hb o => (World.frozen?_of_block (a := ⟨b, o, none⟩) (k b hb)).trans (h.free b hb o)⟩

theorem Mine.mono {base base' : Nat} {fp : List Nat} (h : Mine w base fp) (k : base' ≤ base) : Mine w base' fp := ⟨h.nodup, fun b hb => Nat.le_trans k (h.low b hb), h.free⟩

theorem Mine.app {base : Nat} {f1 f2 : List Nat} (h : Mine w base f1) (k : Mine w base f2) (hd : ∀ b ∈ f1, b ∉ f2) : Mine w base (f1 ++ f2) := by
  refine ⟨List.nodup_append.2 ⟨h.nodup, k.nodup, fun a ha b hb e => hd a ha (e ▸ hb)⟩, fun b hb => ?_, fun b hb => ?_⟩
  · rcases List.mem_append.1 hb with hb | hb
    · exact h.low b hb
    · exact k.low b hb
  · rcases List.mem_append.1 hb with hb | hb
    · exact h.free b hb
    · exact k.free b hb

/-- A slice of the call's own that reads as xs. -/
def Own (c : Cod α) (w : World) (base : Nat) (v : Value) (xs : List α) : Prop := ∃ fp, Cod.rdS c w v xs fp ∧ Mine w base fp

theorem Own.rd {base : Nat} {v : Value} {xs : List α} (h : Own c w base v xs) : Rd c w v xs := by
  obtain ⟨fp, h, _⟩ := h
  exact ⟨fp, h⟩

theorem Own.form {base : Nat} {v : Value} {xs : List α} (h : Own c w base v xs) : ∃ p cap, v = .slice p xs.length cap := by
  obtain ⟨fp, ⟨a, cap, rfl, _⟩, _⟩ := h
  exact ⟨a, cap, rfl⟩

theorem Own.below {base : Nat} {v : Value} {xs : List α} (h : Own c w base v xs) (k : Below w.heap.size w w') : Own c w' base v xs := by
  obtain ⟨fp, h, m⟩ := h
  have hf := fun b hb => k.block b (Cod.rdS_old c h b hb)
  exact ⟨fp, Cod.rdS_frame c hf h, m.frame hf⟩

theorem Own.mono {base base' : Nat} {v : Value} {xs : List α} (h : Own c w base v xs) (k : base' ≤ base) : Own c w base' v xs := by
  obtain ⟨fp, h, m⟩ := h
  exact ⟨fp, h, m.mono k⟩

theorem cell_alloc_old {W : World} {o : Obj} {b i : Nat} (h : b < W.heap.size) : (W.alloc o).cell? ⟨b, i, none⟩ = W.cell? ⟨b, i, none⟩ := (below_new W o).cell (p := ⟨b, i, none⟩) h
theorem frozen_alloc_old {W : World} {o : Obj} {b i : Nat} (h : b < W.heap.size) : (W.alloc o).frozen? ⟨b, i, none⟩ = W.frozen? ⟨b, i, none⟩ := (below_new W o).frozen (p := ⟨b, i, none⟩) h

/-- From block B on, what was there is as it was. -/
structure Keep (B : Nat) (w w' : World) : Prop where
  size : w.heap.size ≤ w'.heap.size
  block : ∀ b, B ≤ b → b < w.heap.size → w'.heap[b]? = w.heap[b]?

theorem Keep.refl (B : Nat) (w : World) : Keep B w w := ⟨Nat.le_refl _, fun _ _ _ => rfl⟩
theorem Keep.trans {B : Nat} {a b d : World} (h : Keep B a b) (k : Keep B b d) : Keep B a d :=
  ⟨Nat.le_trans h.size k.size, fun i h1 h2 => (k.block i h1 (Nat.lt_of_lt_of_le h2 h.size)).trans (h.block i h1 h2)⟩
theorem keep_below {B : Nat} {a b d : World} (k : Below b.heap.size b d) (h : Keep B a b) : Keep B a d := h.trans ⟨k.size, fun i _ h2 => k.block i h2⟩
theorem keep_set {B : Nat} {a b : World} {p : Addr} {u : Value} (h : Keep B a b) (hp : p.block < B) : Keep B a (b.setCell p u) :=
  h.trans ⟨by simp, fun i h1 _ => heap_setCell_other b p i u (by omega)⟩
theorem keep_alloc {B : Nat} {a b : World} (o : Obj) (h : Keep B a b) : Keep B a (b.alloc o) := h.trans ⟨by simp, fun i _ h2 => Below.heap_alloc _ _ _ h2⟩
theorem keep_drewN {B : Nat} {a b : World} (h : Keep B a b) (n : Nat) : Keep B a (b.drewN n) := h.trans ⟨Nat.le_refl _, fun _ _ _ => rfl⟩

theorem Mine.keep {B base : Nat} {fp : List Nat} (h : Mine w base fp) (hB : B ≤ base) (hlt : ∀ b ∈ fp, b < w.heap.size) (k : Keep B w w') : Mine w' base fp :=
  h.frame fun b hb => k.block b (Nat.le_trans hB (h.low b hb)) (hlt b hb)
theorem rdS_keep {B base : Nat} {fp : List Nat} {v : Value} {xs : List α} (h : Cod.rdS c w v xs fp) (m : Mine w base fp) (hB : B ≤ base) (k : Keep B w w') : Cod.rdS c w' v xs fp :=
  Cod.rdS_frame c (fun b hb => k.block b (Nat.le_trans hB (m.low b hb)) (Cod.rdS_old c h b hb)) h
theorem Own.keep {B base : Nat} {v : Value} {xs : List α} (h : Own c w base v xs) (hB : B ≤ base) (k : Keep B w w') : Own c w' base v xs := by
  obtain ⟨fp, h, m⟩ := h
  exact ⟨fp, rdS_keep h m hB k, m.keep hB (Cod.rdS_old c h) k⟩

/-- A row that is being built: n elements have room, the first ones read as xs. -/
def PartC (c : Cod α) (w : World) (base : Nat) (e : TypeId) (v : Value) (n : Nat) (xs : List α) (cells : List Value) : Prop :=
  ∃ fs : List (List Nat), w.ownsRow base e c.size v n cells ∧ xs.length ≤ n ∧ fs.length = xs.length ∧ (∀ (k : Nat) (h : k < xs.length) (f : List Nat), fs[k]? = some f → c.rd w (fun i => cells[k * c.size + i]?) xs[k] f) ∧
    Mine w base fs.flatten ∧ (∀ b ∈ fs.flatten, b < w.heap.size) ∧ ∀ b, v.ownBlock = some b → b ∉ fs.flatten

def Part (c : Cod α) (w : World) (base : Nat) (e : TypeId) (v : Value) (n : Nat) (xs : List α) : Prop := ∃ cells, PartC c w base e v n xs cells

theorem part_start {base : Nat} {e : TypeId} {v : Value} {n : Nat} {cells : List Value} (h : w.ownsRow base e c.size v n cells) : PartC c w base e v n [] cells :=
  ⟨[], h, Nat.zero_le _, rfl, (fun k hk => by simp at hk), Mine.nil _ _, (fun b hb => by simp at hb), (fun b _ hb => by simp at hb)⟩

theorem PartC.below {base : Nat} {e : TypeId} {v : Value} {n : Nat} {xs : List α} {cells : List Value} (h : PartC c w base e v n xs cells) (k : Below w.heap.size w w') : PartC c w' base e v n xs cells := by
  obtain ⟨fs, ho, hl, hf, hr, hm, hlt, hb⟩ := h
  exact ⟨fs, own_below ho k, hl, hf, fun j hj f hf => c.frame (fun b hb => k.block b (c.old (hr j hj f hf) b hb)) (hr j hj f hf), hm.frame (fun b hb => k.block b (hlt b hb)), fun b hb => Nat.lt_of_lt_of_le (hlt b hb) k.size, hb⟩

theorem Part.below {base : Nat} {e : TypeId} {v : Value} {n : Nat} {xs : List α} (h : Part c w base e v n xs) (k : Below w.heap.size w w') : Part c w' base e v n xs := by
  obtain ⟨cells, h⟩ := h
  exact ⟨cells, h.below k⟩

theorem idx_lt {k i n s : Nat} (hk : k < n) (hi : i < s) : k * s + i < n * s := by
  have : (k + 1) * s ≤ n * s := Nat.mul_le_mul_right _ hk
  rw [Nat.add_mul] at this
  omega

theorem PartC.own {base : Nat} {e : TypeId} {v : Value} {n : Nat} {xs : List α} {cells : List Value} (h : PartC c w base e v n xs cells) (hn : xs.length = n) : Own c w base v xs := by
  obtain ⟨fs, ho, _, hf, hr, hm, hlt, hb⟩ := h
  subst hn
  rcases ho.2 with ⟨rfl, h0⟩ | ⟨g, cap, cur, rfl, hg, hgb, hc1, hc2, _⟩
  · have hx : xs = [] := List.eq_nil_of_length_eq_zero h0
    subst hx
    exact ⟨[], ⟨none, 0, rfl, Nat.le_refl _, Nat.zero_le _, fun _ => rfl, Or.inl ⟨rfl, rfl⟩⟩, Mine.nil _ _⟩
  · have hgl : g < w.heap.size := (Array.getElem?_eq_some_iff.1 hgb).1
    refine ⟨g :: fs.flatten, ⟨some ⟨g, 0, none⟩, cap, rfl, hc1, hc2, (fun h => by cases h), Or.inr ⟨g, 0, fs, rfl, rfl, hgl, Cod.elems_of c hf fun k hk f hkf => ?_⟩⟩, ?_⟩
    · refine c.ext (fun i hi => ?_) (hr k hk f hkf)
      show _ = w.cell? ⟨g, 0 + k * c.size + i, none⟩
      rw [Nat.zero_add, ho.cellAt _ (idx_lt hk hi)]
    · refine ⟨List.nodup_cons.2 ⟨hb g rfl, hm.nodup⟩, fun b hb' => ?_, fun b hb' o => ?_⟩
      · rcases List.mem_cons.1 hb' with rfl | hb'
        · exact hg
        · exact hm.low b hb'
      · rcases List.mem_cons.1 hb' with rfl | hb'
        · exact ho.frozenAt o
        · exact hm.free b hb' o

theorem Part.own {base : Nat} {e : TypeId} {v : Value} {n : Nat} {xs : List α} (h : Part c w base e v n xs) (hn : xs.length = n) : Own c w base v xs := by
  obtain ⟨cells, h⟩ := h
  exact h.own hn

/-- The getter of a list of cells. -/
def lst (vs : List Value) : Nat → Option Value := fun j => vs[j]?

/-- Cells set one after another. -/
def setMany (w : World) (g o : Nat) : List Value → World
  | [] => w
  | u :: us => setMany (w.setCell ⟨g, o, none⟩ u) g (o + 1) us
def setList (cells : List Value) (o : Nat) : List Value → List Value
  | [] => cells
  | u :: us => setList (cells.set o u) (o + 1) us

theorem setList_length (vs : List Value) : ∀ (cells : List Value) (o : Nat), (setList cells o vs).length = cells.length := by
  induction vs with
  | nil => intro _ _; rfl
  | cons u us ih => intro cells o; simp [setList, ih]

theorem setList_out (vs : List Value) : ∀ (cells : List Value) (o i : Nat), i < o → (setList cells o vs)[i]? = cells[i]? := by
  induction vs with
  | nil => intro _ _ _ _; rfl
  | cons u us ih =>
    intro cells o i h
    rw [setList, ih _ _ _ (by omega), List.getElem?_set_ne (by omega)]

theorem setList_in (vs : List Value) : ∀ (cells : List Value) (o i : Nat), i < vs.length → o + i < cells.length → (setList cells o vs)[o + i]? = vs[i]? := by
  induction vs with
  | nil => intro _ _ i h; simp at h
  | cons u us ih =>
    intro cells o i h hc
    cases i with
    | zero => rw [Nat.add_zero, setList, setList_out _ _ _ _ (by omega), List.getElem?_set_self (by omega)]; rfl
    | succ i =>
      rw [setList, show o + (i + 1) = o + 1 + i from by omega, ih _ _ _ (by simpa using h) (by simp; omega)]
      rfl

theorem setMany_owns {base : Nat} {e : TypeId} {size g n cap : Nat} (vs : List Value) : ∀ {w : World} {cells : List Value} (o : Nat), w.ownsRow base e size (.slice (some ⟨g, 0, none⟩) n cap) n cells →
    (setMany w g o vs).ownsRow base e size (.slice (some ⟨g, 0, none⟩) n cap) n (setList cells o vs) ∧ w.grownBy (setMany w g o vs) (some g) := by
  induction vs with
  | nil => intro w cells o h; exact ⟨h, ⟨rfl, rfl, rfl, Nat.le_refl _, fun _ _ _ => rfl⟩⟩
  | cons u us ih =>
    intro w cells o h
    obtain ⟨h1, k1⟩ := h.stored o u
    obtain ⟨h2, k2⟩ := ih (o + 1) h1
    exact ⟨h2, ⟨k2.os.trans k1.os, k2.tape.trans k1.tape, k2.output.trans k1.output, Nat.le_trans k1.size k2.size, fun i hi hne => (k2.block i (Nat.lt_of_lt_of_le hi k1.size) hne).trans (k1.block i hi hne)⟩⟩

/-- One element more, stored. -/
theorem PartC.set {base : Nat} {e : TypeId} {g n cap : Nat} {xs : List α} {cells : List Value} {w1 : World} (h : PartC c w base e (.slice (some ⟨g, 0, none⟩) n cap) n xs cells) (k : Below w.heap.size w w1)
    {x : α} {vs : List Value} {f : List Nat} (hvs : vs.length = c.size) (hx : c.rd w1 (lst vs) x f) (hm : Mine w1 w.heap.size f) (hlen : xs.length < n) :
    Part c (setMany w1 g (xs.length * c.size) vs) base e (.slice (some ⟨g, 0, none⟩) n cap) n (xs ++ [x]) := by
  obtain ⟨fs, ho, hl, hf, hr, hmf, hlt, hb⟩ := h
  have hg := ho.lt g rfl
  obtain ⟨ho2, kg⟩ := setMany_owns vs (xs.length * c.size) (own_below ho k)
  have hcl : cells.length = n * c.size := ho.1
  have hfold : ∀ b ∈ fs.flatten, (setMany w1 g (xs.length * c.size) vs).heap[b]? = w.heap[b]? := fun b hb' => by
    rw [kg.block b (Nat.lt_of_lt_of_le (hlt b hb') k.size) (fun e => hb g rfl (by injection e with e; exact e ▸ hb'))]
    exact k.block b (hlt b hb')
  have hfx : ∀ b ∈ f, (setMany w1 g (xs.length * c.size) vs).heap[b]? = w1.heap[b]? := fun b hb' =>
    kg.block b (c.old hx b hb') (fun e => by injection e with e; have := hm.low b hb'; omega)
  refine ⟨setList cells (xs.length * c.size) vs, fs ++ [f], ho2, by simp; omega, by simp [hf], ?_, ?_, ?_, ?_⟩
  · intro j hj f' hf'
    simp only [List.length_append, List.length_cons, List.length_nil] at hj
    by_cases hjx : j < xs.length
    · rw [List.getElem?_append_left (by omega)] at hf'
      rw [List.getElem_append_left hjx]
      refine c.ext (fun i hi => ?_) (c.frame (fun b hb' => hfold b ?_) (hr j hjx f' hf'))
      · exact (setList_out _ _ _ _ (idx_lt hjx hi)).symm
      · exact List.mem_flatten.2 ⟨f', List.mem_of_getElem? hf', hb'⟩
    · have hje : j = xs.length := by omega
      subst hje
      rw [List.getElem?_append_right (by omega), hf, Nat.sub_self] at hf'
      simp only [List.getElem?_cons_zero, Option.some.injEq] at hf'
      subst hf'
      rw [List.getElem_append_right (Nat.le_refl _)]
      simp only [Nat.sub_self, List.getElem_cons_zero]
      refine c.ext (fun i hi => ?_) (c.frame hfx hx)
      have : xs.length * c.size + i < cells.length := by rw [hcl]; exact idx_lt hlen hi
      exact (setList_in _ _ _ _ (by omega) this).symm
  · rw [List.flatten_append, List.flatten_cons, List.flatten_nil, List.append_nil]
    refine (hmf.frame hfold).app ((hm.frame hfx).mono (by omega)) fun b hb' hb'' => ?_
    have := hlt b hb'
    have := hm.low b hb''
    omega
  · intro b hb'
    rw [List.flatten_append, List.mem_append] at hb'
    have hs := Nat.le_trans k.size kg.size
    rcases hb' with hb' | hb'
    · exact Nat.lt_of_lt_of_le (hlt b hb') hs
    · simp only [List.flatten_cons, List.flatten_nil, List.append_nil] at hb'
      exact Nat.lt_of_lt_of_le (c.old hx b hb') kg.size
  · intro b he hb'
    rw [List.flatten_append, List.mem_append] at hb'
    rcases hb' with hb' | hb'
    · exact hb b he hb'
    · simp only [List.flatten_cons, List.flatten_nil, List.append_nil] at hb'
      have := hm.low b hb'
      simp only [Value.ownBlock, Option.some.injEq] at he
      omega

/-- One element more, appended. -/
theorem PartC.snoc {base : Nat} {e : TypeId} {v v' : Value} {g' n : Nat} {xs : List α} {cells vs : List Value} {w1 w2 : World} (h : PartC c w base e v n xs cells) (k : Below w.heap.size w w1)
    {x : α} {f : List Nat} (hx : c.rd w1 (lst vs) x f) (hm : Mine w1 w.heap.size f) (hlen : xs.length = n)
    (ho2 : w2.ownsRow base e c.size v' (n + 1) (cells ++ vs)) (kg : w1.grownBy w2 v.ownBlock) (hv' : v'.ownBlock = some g') (hg' : v.ownBlock = some g' ∨ w1.heap.size ≤ g') (hbase : base ≤ w.heap.size) :
    Part c w2 base e v' (n + 1) (xs ++ [x]) := by
  obtain ⟨fs, ho, hl, hf, hr, hmf, hlt, hb⟩ := h
  have hcl : cells.length = n * c.size := ho.1
  subst hlen
  have hlo := ho.lt
  have hfold : ∀ b ∈ fs.flatten, w2.heap[b]? = w.heap[b]? := fun b hb' => by
    rw [kg.block b (Nat.lt_of_lt_of_le (hlt b hb') k.size) (fun e => hb b e.symm hb')]
    exact k.block b (hlt b hb')
  have hfx : ∀ b ∈ f, w2.heap[b]? = w1.heap[b]? := fun b hb' =>
    kg.block b (c.old hx b hb') (fun e => by have := (hlo b e.symm).2; have := hm.low b hb'; omega)
  refine ⟨cells ++ vs, fs ++ [f], ho2, by simp, by simp [hf], ?_, ?_, ?_, ?_⟩
  · intro j hj f' hf'
    simp only [List.length_append, List.length_cons, List.length_nil] at hj
    by_cases hjx : j < xs.length
    · rw [List.getElem?_append_left (by omega)] at hf'
      rw [List.getElem_append_left hjx]
      refine c.ext (fun i hi => ?_) (c.frame (fun b hb' => hfold b ?_) (hr j hjx f' hf'))
      · exact (List.getElem?_append_left (by rw [hcl]; exact idx_lt hjx hi)).symm
      · exact List.mem_flatten.2 ⟨f', List.mem_of_getElem? hf', hb'⟩
    · have hje : j = xs.length := by omega
      subst hje
      rw [List.getElem?_append_right (by omega), hf, Nat.sub_self] at hf'
      simp only [List.getElem?_cons_zero, Option.some.injEq] at hf'
      subst hf'
      rw [List.getElem_append_right (Nat.le_refl _)]
      simp only [Nat.sub_self, List.getElem_cons_zero]
      refine c.ext (fun i hi => ?_) (c.frame hfx hx)
      rw [List.getElem?_append_right (by omega), hcl]
      simp [lst]
  · rw [List.flatten_append, List.flatten_cons, List.flatten_nil, List.append_nil]
    refine (hmf.frame hfold).app ((hm.frame hfx).mono hbase) fun b hb' hb'' => ?_
    have := hlt b hb'
    have := hm.low b hb''
    omega
  · intro b hb'
    rw [List.flatten_append, List.mem_append] at hb'
    rcases hb' with hb' | hb'
    · exact Nat.lt_of_lt_of_le (hlt b hb') (Nat.le_trans k.size kg.size)
    · simp only [List.flatten_cons, List.flatten_nil, List.append_nil] at hb'
      exact Nat.lt_of_lt_of_le (c.old hx b hb') kg.size
  · intro b he hb'
    rw [hv'] at he
    injection he with he
    subst he
    rw [List.flatten_append, List.mem_append] at hb'
    rcases hb' with hb' | hb'
    · rcases hg' with hg' | hg'
      · exact hb _ hg' hb'
      · have := hlt _ hb'; have := k.size; omega
    · simp only [List.flatten_cons, List.flatten_nil, List.append_nil] at hb'
      rcases hg' with hg' | hg'
      · have := (hlo _ hg').2
        have := hm.low _ hb'
        omega
      · have := c.old hx _ hb'
        omega

end
end Go.Proofs.Ytekgackednpdgaa
