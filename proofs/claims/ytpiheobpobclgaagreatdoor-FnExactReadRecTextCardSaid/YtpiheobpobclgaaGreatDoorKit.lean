/- Plain lemmas and contracts that all proofs of this seat lean on: bundle Kit. -/
import Derived.Test.YtpiheobpobclgaaGreatDoorCore
import Derived.Deep.AppendLies
import Derived.Lib.Bytealg
import Derived.Lib.IndexLaws
import Derived.WalkLawsBesides
/- Rows of data: read, kept, owned, built. Plain lemmas; no program. -/
namespace Go.Proofs.YtpiheobpobclgaaGreatDoor
open Go.RowKit

section
variable {α : Type} {c : Cod α} {w w' : World}

/-- A slice that reads as xs. -/
def Rd (c : Cod α) (w : World) (v : Value) (xs : List α) : Prop := ∃ fp, Cod.rdS c w v xs fp

theorem Rd.below {v : Value} {xs : List α} (h : Rd c w v xs) (k : Below w.heap.size w w') : Rd c w' v xs := by
  obtain ⟨fp, h⟩ := h
  exact ⟨fp, Cod.rdS_frame c (fun b hb => k.block b (Cod.rdS_old c h b hb)) h⟩

/-- What lies from g, o on. -/
def At (c : Cod α) (w : World) (g o : Nat) (x : α) : Prop := ∃ f, c.rd w (cellsAt w g o) x f

theorem At.below {g o : Nat} {x : α} (h : At c w g o x) (hg : g < w.heap.size) (k : Below w.heap.size w w') : At c w' g o x := by
  obtain ⟨f, h⟩ := h
  refine ⟨f, ?_⟩
  rw [Cod.cellsAt_of_block (k.block g hg)]
  exact c.frame (fun b hb => k.block b (c.old h b hb)) h

theorem Rd.form {v : Value} {xs : List α} (h : Rd c w v xs) : ∃ p cap, v = .slice p xs.length cap ∧ xs.length ≤ cap ∧ cap ≤ maxLen ∧
    (0 < xs.length → ∃ g o, p = some ⟨g, o, none⟩ ∧ g < w.heap.size ∧ ∀ j (h : j < xs.length), At c w g (o + j * c.size) xs[j]) := by
  obtain ⟨fp, a, cap, rfl, h1, h2, _, h4⟩ := h
  refine ⟨a, cap, rfl, h1, h2, fun hpos => ?_⟩
  rcases h4 with ⟨rfl, _⟩ | ⟨b, off, fs, ha, _, hb, he⟩
  · simp at hpos
  · refine ⟨b, off, ha, hb, fun j hj => ?_⟩
    obtain ⟨f, _, h1⟩ := Cod.elems_at _ he j hj
    exact ⟨f, h1⟩

/-- Blocks of the call's own: from base on, none twice, none frozen. -/
structure Mine (w : World) (base : Nat) (fp : List Nat) : Prop where
  nodup : fp.Nodup
  low : ∀ b ∈ fp, base ≤ b
  free : ∀ b ∈ fp, ∀ o, w.frozen? ⟨b, o, none⟩ = false

theorem Mine.nil (w : World) (base : Nat) : Mine w base [] := ⟨List.nodup_nil, (fun _ h => by cases h), (fun _ h => by cases h)⟩

theorem Mine.frame {base : Nat} {fp : List Nat} (h : Mine w base fp) (k : ∀ b ∈ fp, w'.heap[b]? = w.heap[b]?) : Mine w' base fp :=
  ⟨h.nodup, h.low, fun b hb o => (World.frozen?_of_block (a := ⟨b, o, none⟩) (k b hb)).trans (h.free b hb o)⟩

theorem Mine.mono {base base' : Nat} {fp : List Nat} (h : Mine w base fp) (k : base' ≤ base) : Mine w base' fp := ⟨h.nodup, fun b hb => Nat.le_trans k (h.low b hb), h.free⟩

theorem Mine.app {base : Nat} {f1 f2 : List Nat} (h : Mine w base f1) (k : Mine w base f2) (hd : ∀ b ∈ f1, b ∉ f2) : Mine w base (f1 ++ f2) := by
  refine ⟨List.nodup_append.2 ⟨h.nodup, k.nodup, fun a ha b hb e => hd a ha (e ▸ hb)⟩, fun b hb => ?_, fun b hb => ?_⟩
  · rcases List.mem_append.1 hb with hb | hb
    · exact h.low b hb
    · exact k.low b hb
  · rcases List.mem_append.1 hb with hb | hb
    · exact h.free b hb
    · exact k.free b hb

/-- A slice of the call's own that reads as xs. -/
def Own (c : Cod α) (w : World) (base : Nat) (v : Value) (xs : List α) : Prop := ∃ fp, Cod.rdS c w v xs fp ∧ Mine w base fp

theorem Own.rd {base : Nat} {v : Value} {xs : List α} (h : Own c w base v xs) : Rd c w v xs := by
  obtain ⟨fp, h, _⟩ := h
  exact ⟨fp, h⟩

theorem Own.form {base : Nat} {v : Value} {xs : List α} (h : Own c w base v xs) : ∃ p cap, v = .slice p xs.length cap := by
  obtain ⟨fp, ⟨a, cap, rfl, _⟩, _⟩ := h
  exact ⟨a, cap, rfl⟩

theorem Own.below {base : Nat} {v : Value} {xs : List α} (h : Own c w base v xs) (k : Below w.heap.size w w') : Own c w' base v xs := by
  obtain ⟨fp, h, m⟩ := h
  have hf := fun b hb => k.block b (Cod.rdS_old c h b hb)
  exact ⟨fp, Cod.rdS_frame c hf h, m.frame hf⟩

theorem Own.mono {base base' : Nat} {v : Value} {xs : List α} (h : Own c w base v xs) (k : base' ≤ base) : Own c w base' v xs := by
  obtain ⟨fp, h, m⟩ := h
  exact ⟨fp, h, m.mono k⟩

theorem cell_alloc_old {W : World} {o : Obj} {b i : Nat} (h : b < W.heap.size) : (W.alloc o).cell? ⟨b, i, none⟩ = W.cell? ⟨b, i, none⟩ := (below_new W o).cell (p := ⟨b, i, none⟩) h
theorem frozen_alloc_old {W : World} {o : Obj} {b i : Nat} (h : b < W.heap.size) : (W.alloc o).frozen? ⟨b, i, none⟩ = W.frozen? ⟨b, i, none⟩ := (below_new W o).frozen (p := ⟨b, i, none⟩) h

/-- From block B on, what was there is as it was. -/
structure Keep (B : Nat) (w w' : World) : Prop where
  size : w.heap.size ≤ w'.heap.size
  block : ∀ b, B ≤ b → b < w.heap.size → w'.heap[b]? = w.heap[b]?

theorem Keep.refl (B : Nat) (w : World) : Keep B w w := ⟨Nat.le_refl _, fun _ _ _ => rfl⟩
theorem Keep.trans {B : Nat} {a b d : World} (h : Keep B a b) (k : Keep B b d) : Keep B a d :=
  ⟨Nat.le_trans h.size k.size, fun i h1 h2 => (k.block i h1 (Nat.lt_of_lt_of_le h2 h.size)).trans (h.block i h1 h2)⟩
theorem keep_below {B : Nat} {a b d : World} (k : Below b.heap.size b d) (h : Keep B a b) : Keep B a d := h.trans ⟨k.size, fun i _ h2 => k.block i h2⟩
theorem keep_set {B : Nat} {a b : World} {p : Addr} {u : Value} (h : Keep B a b) (hp : p.block < B) : Keep B a (b.setCell p u) :=
  h.trans ⟨by simp, fun i h1 _ => heap_setCell_other b p i u (by omega)⟩
theorem keep_alloc {B : Nat} {a b : World} (o : Obj) (h : Keep B a b) : Keep B a (b.alloc o) := h.trans ⟨by simp, fun i _ h2 => Below.heap_alloc _ _ _ h2⟩
theorem keep_drewN {B : Nat} {a b : World} (h : Keep B a b) (n : Nat) : Keep B a (b.drewN n) := h.trans ⟨Nat.le_refl _, fun _ _ _ => rfl⟩

theorem Mine.keep {B base : Nat} {fp : List Nat} (h : Mine w base fp) (hB : B ≤ base) (hlt : ∀ b ∈ fp, b < w.heap.size) (k : Keep B w w') : Mine w' base fp :=
  h.frame fun b hb => k.block b (Nat.le_trans hB (h.low b hb)) (hlt b hb)
theorem rdS_keep {B base : Nat} {fp : List Nat} {v : Value} {xs : List α} (h : Cod.rdS c w v xs fp) (m : Mine w base fp) (hB : B ≤ base) (k : Keep B w w') : Cod.rdS c w' v xs fp :=
  Cod.rdS_frame c (fun b hb => k.block b (Nat.le_trans hB (m.low b hb)) (Cod.rdS_old c h b hb)) h
theorem Own.keep {B base : Nat} {v : Value} {xs : List α} (h : Own c w base v xs) (hB : B ≤ base) (k : Keep B w w') : Own c w' base v xs := by
  obtain ⟨fp, h, m⟩ := h
  exact ⟨fp, rdS_keep h m hB k, m.keep hB (Cod.rdS_old c h) k⟩

/-- A row that is being built: n elements have room, the first ones read as xs. -/
def PartC (c : Cod α) (w : World) (base : Nat) (e : TypeId) (v : Value) (n : Nat) (xs : List α) (cells : List Value) : Prop :=
  ∃ fs : List (List Nat), w.ownsRow base e c.size v n cells ∧ xs.length ≤ n ∧ fs.length = xs.length ∧ (∀ (k : Nat) (h : k < xs.length) (f : List Nat), fs[k]? = some f → c.rd w (fun i => cells[k * c.size + i]?) xs[k] f) ∧
    Mine w base fs.flatten ∧ (∀ b ∈ fs.flatten, b < w.heap.size) ∧ ∀ b, v.ownBlock = some b → b ∉ fs.flatten

def Part (c : Cod α) (w : World) (base : Nat) (e : TypeId) (v : Value) (n : Nat) (xs : List α) : Prop := ∃ cells, PartC c w base e v n xs cells

theorem part_start {base : Nat} {e : TypeId} {v : Value} {n : Nat} {cells : List Value} (h : w.ownsRow base e c.size v n cells) : PartC c w base e v n [] cells :=
  ⟨[], h, Nat.zero_le _, rfl, (fun k hk => by simp at hk), Mine.nil _ _, (fun b hb => by simp at hb), (fun b _ hb => by simp at hb)⟩

theorem PartC.below {base : Nat} {e : TypeId} {v : Value} {n : Nat} {xs : List α} {cells : List Value} (h : PartC c w base e v n xs cells) (k : Below w.heap.size w w') : PartC c w' base e v n xs cells := by
  obtain ⟨fs, ho, hl, hf, hr, hm, hlt, hb⟩ := h
  exact ⟨fs, own_below ho k, hl, hf, fun j hj f hf => c.frame (fun b hb => k.block b (c.old (hr j hj f hf) b hb)) (hr j hj f hf), hm.frame (fun b hb => k.block b (hlt b hb)), fun b hb => Nat.lt_of_lt_of_le (hlt b hb) k.size, hb⟩

theorem Part.below {base : Nat} {e : TypeId} {v : Value} {n : Nat} {xs : List α} (h : Part c w base e v n xs) (k : Below w.heap.size w w') : Part c w' base e v n xs := by
  obtain ⟨cells, h⟩ := h
  exact ⟨cells, h.below k⟩

theorem idx_lt {k i n s : Nat} (hk : k < n) (hi : i < s) : k * s + i < n * s := by
  have : (k + 1) * s ≤ n * s := Nat.mul_le_mul_right _ hk
  rw [Nat.add_mul] at this
  omega

theorem PartC.own {base : Nat} {e : TypeId} {v : Value} {n : Nat} {xs : List α} {cells : List Value} (h : PartC c w base e v n xs cells) (hn : xs.length = n) : Own c w base v xs := by
  obtain ⟨fs, ho, _, hf, hr, hm, hlt, hb⟩ := h
  subst hn
  rcases ho.2 with ⟨rfl, h0⟩ | ⟨g, cap, cur, rfl, hg, hgb, hc1, hc2, _⟩
  · have hx : xs = [] := List.eq_nil_of_length_eq_zero h0
    subst hx
    exact ⟨[], ⟨none, 0, rfl, Nat.le_refl _, Nat.zero_le _, fun _ => rfl, Or.inl ⟨rfl, rfl⟩⟩, Mine.nil _ _⟩
  · have hgl : g < w.heap.size := (Array.getElem?_eq_some_iff.1 hgb).1
    refine ⟨g :: fs.flatten, ⟨some ⟨g, 0, none⟩, cap, rfl, hc1, hc2, (fun h => by cases h), Or.inr ⟨g, 0, fs, rfl, rfl, hgl, Cod.elems_of c hf fun k hk f hkf => ?_⟩⟩, ?_⟩
    · refine c.ext (fun i hi => ?_) (hr k hk f hkf)
      show _ = w.cell? ⟨g, 0 + k * c.size + i, none⟩
      rw [Nat.zero_add, ho.cellAt _ (idx_lt hk hi)]
    · refine ⟨List.nodup_cons.2 ⟨hb g rfl, hm.nodup⟩, fun b hb' => ?_, fun b hb' o => ?_⟩
      · rcases List.mem_cons.1 hb' with rfl | hb'
        · exact hg
        · exact hm.low b hb'
      · rcases List.mem_cons.1 hb' with rfl | hb'
        · exact ho.frozenAt o
        · exact hm.free b hb' o

theorem Part.own {base : Nat} {e : TypeId} {v : Value} {n : Nat} {xs : List α} (h : Part c w base e v n xs) (hn : xs.length = n) : Own c w base v xs := by
  obtain ⟨cells, h⟩ := h
  exact h.own hn

/-- The getter of a list of cells. -/
def lst (vs : List Value) : Nat → Option Value := fun j => vs[j]?

/-- Cells set one after another. -/
def setMany (w : World) (g o : Nat) : List Value → World
  | [] => w
  | u :: us => setMany (w.setCell ⟨g, o, none⟩ u) g (o + 1) us
def setList (cells : List Value) (o : Nat) : List Value → List Value
  | [] => cells
  | u :: us => setList (cells.set o u) (o + 1) us

theorem setList_length (vs : List Value) : ∀ (cells : List Value) (o : Nat), (setList cells o vs).length = cells.length := by
  induction vs with
  | nil => intro _ _; rfl
  | cons u us ih => intro cells o; simp [setList, ih]

theorem setList_out (vs : List Value) : ∀ (cells : List Value) (o i : Nat), i < o → (setList cells o vs)[i]? = cells[i]? := by
  induction vs with
  | nil => intro _ _ _ _; rfl
  | cons u us ih =>
    intro cells o i h
    rw [setList, ih _ _ _ (by omega), List.getElem?_set_ne (by omega)]

theorem setList_in (vs : List Value) : ∀ (cells : List Value) (o i : Nat), i < vs.length → o + i < cells.length → (setList cells o vs)[o + i]? = vs[i]? := by
  induction vs with
  | nil => intro _ _ i h; simp at h
  | cons u us ih =>
    intro cells o i h hc
    cases i with
    | zero => rw [Nat.add_zero, setList, setList_out _ _ _ _ (by omega), List.getElem?_set_self (by omega)]; rfl
    | succ i =>
      rw [setList, show o + (i + 1) = o + 1 + i from by omega, ih _ _ _ (by simpa using h) (by simp; omega)]
      rfl

theorem setMany_owns {base : Nat} {e : TypeId} {size g n cap : Nat} (vs : List Value) : ∀ {w : World} {cells : List Value} (o : Nat), w.ownsRow base e size (.slice (some ⟨g, 0, none⟩) n cap) n cells →
    (setMany w g o vs).ownsRow base e size (.slice (some ⟨g, 0, none⟩) n cap) n (setList cells o vs) ∧ w.grownBy (setMany w g o vs) (some g) := by
  induction vs with
  | nil => intro w cells o h; exact ⟨h, ⟨rfl, rfl, rfl, Nat.le_refl _, fun _ _ _ => rfl⟩⟩
  | cons u us ih =>
    intro w cells o h
    obtain ⟨h1, k1⟩ := h.stored o u
    obtain ⟨h2, k2⟩ := ih (o + 1) h1
    exact ⟨h2, ⟨k2.os.trans k1.os, k2.tape.trans k1.tape, k2.output.trans k1.output, Nat.le_trans k1.size k2.size, fun i hi hne => (k2.block i (Nat.lt_of_lt_of_le hi k1.size) hne).trans (k1.block i hi hne)⟩⟩

/-- One element more, stored. -/
theorem PartC.set {base : Nat} {e : TypeId} {g n cap : Nat} {xs : List α} {cells : List Value} {w1 : World} (h : PartC c w base e (.slice (some ⟨g, 0, none⟩) n cap) n xs cells) (k : Below w.heap.size w w1)
    {x : α} {vs : List Value} {f : List Nat} (hvs : vs.length = c.size) (hx : c.rd w1 (lst vs) x f) (hm : Mine w1 w.heap.size f) (hlen : xs.length < n) :
    Part c (setMany w1 g (xs.length * c.size) vs) base e (.slice (some ⟨g, 0, none⟩) n cap) n (xs ++ [x]) := by
  obtain ⟨fs, ho, hl, hf, hr, hmf, hlt, hb⟩ := h
  have hg := ho.lt g rfl
  obtain ⟨ho2, kg⟩ := setMany_owns vs (xs.length * c.size) (own_below ho k)
  have hcl : cells.length = n * c.size := ho.1
  have hfold : ∀ b ∈ fs.flatten, (setMany w1 g (xs.length * c.size) vs).heap[b]? = w.heap[b]? := fun b hb' => by
    rw [kg.block b (Nat.lt_of_lt_of_le (hlt b hb') k.size) (fun e => hb g rfl (by injection e with e; exact e ▸ hb'))]
    exact k.block b (hlt b hb')
  have hfx : ∀ b ∈ f, (setMany w1 g (xs.length * c.size) vs).heap[b]? = w1.heap[b]? := fun b hb' =>
    kg.block b (c.old hx b hb') (fun e => by injection e with e; have := hm.low b hb'; omega)
  refine ⟨setList cells (xs.length * c.size) vs, fs ++ [f], ho2, by simp; omega, by simp [hf], ?_, ?_, ?_, ?_⟩
  · intro j hj f' hf'
    simp only [List.length_append, List.length_cons, List.length_nil] at hj
    by_cases hjx : j < xs.length
    · rw [List.getElem?_append_left (by omega)] at hf'
      rw [List.getElem_append_left hjx]
      refine c.ext (fun i hi => ?_) (c.frame (fun b hb' => hfold b ?_) (hr j hjx f' hf'))
      · exact (setList_out _ _ _ _ (idx_lt hjx hi)).symm
      · exact List.mem_flatten.2 ⟨f', List.mem_of_getElem? hf', hb'⟩
    · have hje : j = xs.length := by omega
      subst hje
      rw [List.getElem?_append_right (by omega), hf, Nat.sub_self] at hf'
      simp only [List.getElem?_cons_zero, Option.some.injEq] at hf'
      subst hf'
      rw [List.getElem_append_right (Nat.le_refl _)]
      simp only [Nat.sub_self, List.getElem_cons_zero]
      refine c.ext (fun i hi => ?_) (c.frame hfx hx)
      have : xs.length * c.size + i < cells.length := by rw [hcl]; exact idx_lt hlen hi
      exact (setList_in _ _ _ _ (by omega) this).symm
  · rw [List.flatten_append, List.flatten_cons, List.flatten_nil, List.append_nil]
    refine (hmf.frame hfold).app ((hm.frame hfx).mono (by omega)) fun b hb' hb'' => ?_
    have := hlt b hb'
    have := hm.low b hb''
    omega
  · intro b hb'
    rw [List.flatten_append, List.mem_append] at hb'
    have hs := Nat.le_trans k.size kg.size
    rcases hb' with hb' | hb'
    · exact Nat.lt_of_lt_of_le (hlt b hb') hs
    · simp only [List.flatten_cons, List.flatten_nil, List.append_nil] at hb'
      exact Nat.lt_of_lt_of_le (c.old hx b hb') kg.size
  · intro b he hb'
    rw [List.flatten_append, List.mem_append] at hb'
    rcases hb' with hb' | hb'
    · exact hb b he hb'
    · simp only [List.flatten_cons, List.flatten_nil, List.append_nil] at hb'
      have := hm.low b hb'
      simp only [Value.ownBlock, Option.some.injEq] at he
      omega

/-- One element more, appended. -/
theorem PartC.snoc {base : Nat} {e : TypeId} {v v' : Value} {g' n : Nat} {xs : List α} {cells vs : List Value} {w1 w2 : World} (h : PartC c w base e v n xs cells) (k : Below w.heap.size w w1)
    {x : α} {f : List Nat} (hx : c.rd w1 (lst vs) x f) (hm : Mine w1 w.heap.size f) (hlen : xs.length = n)
    (ho2 : w2.ownsRow base e c.size v' (n + 1) (cells ++ vs)) (kg : w1.grownBy w2 v.ownBlock) (hv' : v'.ownBlock = some g') (hg' : v.ownBlock = some g' ∨ w1.heap.size ≤ g') (hbase : base ≤ w.heap.size) :
    Part c w2 base e v' (n + 1) (xs ++ [x]) := by
  obtain ⟨fs, ho, hl, hf, hr, hmf, hlt, hb⟩ := h
  have hcl : cells.length = n * c.size := ho.1
  subst hlen
  have hlo := ho.lt
  have hfold : ∀ b ∈ fs.flatten, w2.heap[b]? = w.heap[b]? := fun b hb' => by
    rw [kg.block b (Nat.lt_of_lt_of_le (hlt b hb') k.size) (fun e => hb b e.symm hb')]
    exact k.block b (hlt b hb')
  have hfx : ∀ b ∈ f, w2.heap[b]? = w1.heap[b]? := fun b hb' =>
    kg.block b (c.old hx b hb') (fun e => by have := (hlo b e.symm).2; have := hm.low b hb'; omega)
  refine ⟨cells ++ vs, fs ++ [f], ho2, by simp, by simp [hf], ?_, ?_, ?_, ?_⟩
  · intro j hj f' hf'
    simp only [List.length_append, List.length_cons, List.length_nil] at hj
    by_cases hjx : j < xs.length
    · rw [List.getElem?_append_left (by omega)] at hf'
      rw [List.getElem_append_left hjx]
      refine c.ext (fun i hi => ?_) (c.frame (fun b hb' => hfold b ?_) (hr j hjx f' hf'))
      · exact (List.getElem?_append_left (by rw [hcl]; exact idx_lt hjx hi)).symm
      · exact List.mem_flatten.2 ⟨f', List.mem_of_getElem? hf', hb'⟩
    · have hje : j = xs.length := by omega
      subst hje
      rw [List.getElem?_append_right (by omega), hf, Nat.sub_self] at hf'
      simp only [List.getElem?_cons_zero, Option.some.injEq] at hf'
      subst hf'
      rw [List.getElem_append_right (Nat.le_refl _)]
      simp only [Nat.sub_self, List.getElem_cons_zero]
      refine c.ext (fun i hi => ?_) (c.frame hfx hx)
      rw [List.getElem?_append_right (by omega), hcl]
      simp [lst]
  · rw [List.flatten_append, List.flatten_cons, List.flatten_nil, List.append_nil]
    refine (hmf.frame hfold).app ((hm.frame hfx).mono hbase) fun b hb' hb'' => ?_
    have := hlt b hb'
    have := hm.low b hb''
    omega
  · intro b hb'
    rw [List.flatten_append, List.mem_append] at hb'
    rcases hb' with hb' | hb'
    · exact Nat.lt_of_lt_of_le (hlt b hb') (Nat.le_trans k.size kg.size)
    · simp only [List.flatten_cons, List.flatten_nil, List.append_nil] at hb'
      exact Nat.lt_of_lt_of_le (c.old hx b hb') kg.size
  · intro b he hb'
    rw [hv'] at he
    injection he with he
    subst he
    rw [List.flatten_append, List.mem_append] at hb'
    rcases hb' with hb' | hb'
    · rcases hg' with hg' | hg'
      · exact hb _ hg' hb'
      · have := hlt _ hb'; have := k.size; omega
    · simp only [List.flatten_cons, List.flatten_nil, List.append_nil] at hb'
      rcases hg' with hg' | hg'
      · have := (hlo _ hg').2
        have := hm.low _ hb'
        omega
      · have := c.old hx _ hb'
        omega

end
end Go.Proofs.YtpiheobpobclgaaGreatDoor


/- append to a row of data that is being built. Plain lemmas over any program. -/
namespace Go.Proofs.YtpiheobpobclgaaGreatDoor
open Go.RowKit

section
variable {P : Program} {ops : Array Oper} {rest : List Oper} {o : Oper} {a : Act} {Q : Exit → Act → World → Prop} {α : Type} {c : Cod α}

theorem wpList_append_part (Wp : World) (hgd : o.guard = none) (s x : Operand) (t : TypeId) (ho : o.op = .call { callee := .builtin .append, args := #[s, x], argTypes := #[t, t] })
    (base : Nat) (e e' : TypeId) (i : TypeInfo) (z : Value) (bytes : Nat) (ht : P.underlying t = some (.slice e)) (hi : P.info? e = some i) (hz : i.zero = some z)
    (hsize : i.size = c.size) (hby : i.bytes = bytes) (hzs : z.cells.size = c.size) (hsz : 0 < c.size) (hbp : 0 < bytes)
    (w0 : World) (v : Value) (n : Nat) (xs : List α) (cells : List Value) (hs : a.eval s = v) (hp : PartC c w0 base e v n xs cells) (hlen : xs.length = n) (k : Below w0.heap.size w0 Wp)
    (y : α) (f : List Nat) (cs : List Value) (hcl : cs.length = c.size) (hrd : c.rd Wp (lst cs) y f) (hm : Mine Wp w0.heap.size f)
    (H : Nat) (hH : Wp.heap.size = H) (hx : a.eval x = .slice (some ⟨H, 0, none⟩) 1 1) (h1 : ∀ u ∈ cs, u.oneCell' = true)
    (hbytes : (n + 1) * bytes ≤ room) (hbase : base ≤ w0.heap.size)
    (h : ∀ g cap w', Part c w' base e (.slice (some ⟨g, 0, none⟩) (n + 1) cap) (n + 1) (xs ++ [y]) → Below base Wp w' → wpList P ops Q rest (a.put o.dst (.slice (some ⟨g, 0, none⟩) (n + 1) cap)) w') :
    wpList P ops Q (o :: rest) a (Wp.alloc (.cells cs.toArray e')) := by
  subst hH
  obtain ⟨fs, hown, _⟩ := id (hp.below k)
  refine wpList_append_lies _ hgd s x t ho base e i z c.size bytes ht hi hz hsize hby hzs hsz v n cells hs (hown.alloc _) ⟨Wp.heap.size, 0, none⟩ 1 1 cs hx (by omega) ?_ h1 (by decide) ?_ hbytes (by have := k.size; simp; omega) _ rfl ?_
  · intro j u hj
    rw [WideShapes.add_plain, Nat.zero_add, World.cell?_alloc_mark]
    simpa using hj
  · have h2 : (n + 1) * 1 ≤ (n + 1) * bytes := Nat.mul_le_mul_left _ hbp
    have h3 : (n + 1) * bytes ≤ room := hbytes
    unfold room at h3
    unfold maxLen
    omega
  · intro g cap w' hown' hg hat _
    have k2 : Below w0.heap.size w0 (Wp.alloc (.cells cs.toArray e')) := below_alloc _ k
    have hrd2 : c.rd (Wp.alloc (.cells cs.toArray e')) (lst cs) y f := c.frame (fun b hb => Below.heap_alloc _ _ _ (c.old hrd b hb)) hrd
    have hm2 : Mine (Wp.alloc (.cells cs.toArray e')) w0.heap.size f := hm.frame fun b hb => Below.heap_alloc _ _ _ (c.old hrd b hb)
    refine h g cap w' (hp.snoc k2 hrd2 hm2 hlen hown' hg rfl ?_ hbase) ?_
    · rcases hat with hat | hat
      · exact Or.inl hat
      · exact Or.inr (Nat.le_of_eq hat.symm)
    · have hg' : Wp.grownBy w' v.ownBlock := ⟨hg.os, hg.tape, hg.output, Nat.le_trans (by simp) hg.size, fun j hj hne => by
        rw [hg.block j (by simp; omega) hne]
        exact Below.heap_alloc _ _ _ hj⟩
      exact Below.grown (Below.refl _ _) hg' (Nat.le_trans hbase k.size) fun j hj => (hown.lt j hj).1

end
end Go.Proofs.YtpiheobpobclgaaGreatDoor


/- Lists of strings of the calls' own: compared, marked, held. -/
namespace Go.Proofs.YtpiheobpobclgaaGreatDoor
open Go.RowKit

def oneB (d : Nat) : ByteArray := ⟨#[UInt8.ofNat (48 + d)]⟩
def digB (n : Nat) : ByteArray := if n = 0 then ⟨#[]⟩ else digB (n / 10) ++ oneB (n % 10)
termination_by n
decreasing_by omega
theorem digB_zero : digB 0 = ⟨#[]⟩ := by rw [digB]; rfl
theorem digB_pos {n : Nat} (h : 0 < n) : digB n = digB (n / 10) ++ oneB (n % 10) := by rw [digB, if_neg (by omega)]
/-- What markText returns. -/
def markB (n : Nat) : ByteArray := ⟨#[109]⟩ ++ digB n

theorem convert_dig {P : Program} {src dst e : TypeId} (hs : P.underlying src = some (.slice e)) (he : P.underlying e = some (.int .u8)) (hd : P.underlying dst = some .string) (k : Nat) (W : World) :
    (convert src dst (.slice (some ⟨W.heap.size, 0, none⟩) 1 1)).run P (W.alloc (.cells #[.int .u8 (48 + (k : Int) % 10)] e)) = .ok (.string (oneB (k % 10))) (W.alloc (.cells #[.int .u8 (48 + (k : Int) % 10)] e)) := by
  have e1 : byteV (UInt8.ofNat (48 + k % 10)) = .int .u8 (48 + (k : Int) % 10) := by rw [byteV_ofNat (by omega)]; simp
  refine run_convert_bytes_back _ src dst e _ 1 [UInt8.ofNat (48 + k % 10)] hs he hd fun j hj => ?_
  rw [WideShapes.add_plain, Nat.zero_add, World.cell?_alloc_mark]
  rw [← e1]
  match j, hj with
  | 0, _ => rfl

set_option maxRecDepth 100000 in
/-- laws.markText -/
theorem markText_any (n : Nat) (h0 : 0 < n) (hn : n ≤ 1099511627776) (w : World) : Calls Tryz.prog 43 #[.int .i64 (n : Int)] w fun e w' => e = .returned (.string (markB n)) ∧ Below w.heap.size w w' := by
  have Hn := Lib.hid hn
  have h01 : (0 : Int) < (n : Int) := by omega
  clear hn
  go_enter Tryz.func43, Tryz.ntmps43
  go_wp2
  go_loopw [0, 3] (fun m v wr => ∃ (k : Nat) (B : ByteArray), m = .int .i64 k ∧ k ≤ n ∧ v = .string B ∧ Hid (B.size + k ≤ n) ∧ Hid (digB k ++ B = digB n) ∧ Below w.heap.size w wr) (fun m _ _ => (intOf m).toNat)
  case atStart => exact ⟨n, ⟨#[]⟩, rfl, Nat.le_refl _, rfl, Lib.hid (by show 0 + n ≤ n; omega), Lib.hid (by exact ByteArray.append_empty), Below.refl _ _⟩
  case round =>
    obtain ⟨k, B, rfl, hk, rfl, hs, Hd, hb⟩ := hrel
    have hbs := hb.size
    by_cases hlt : 0 < k
    · have hlt2 : (0 : Int) < (k : Int) := by omega
      have hkb : (k : Int) ≤ 1099511627776 := by have := Hn.out; omega
      have hadd := fun W => run_string_add_sum (P := Tryz.prog) (w := W) (oneB (k % 10)) B (by have := hs.out; have := Hn.out; show 1 + B.size ≤ _; omega)
      have hcv := convert_dig (src := 59) (dst := 9) Tryz.underlying59 Tryz.underlying5 Tryz.underlying9 k
      go_wp2
      go_roundw
      case rel => exact ⟨k / 10, oneB (k % 10) ++ B, by go_num, by omega, rfl, Lib.hid (by rw [ByteArray.size_append]; show 1 + B.size + k / 10 ≤ n; have := hs.out; omega), Lib.hid (by rw [← Hd.out, digB_pos hlt, ByteArray.append_assoc]), below_alloc _ hb⟩
      case measure => simp [intOf]; omega
    · obtain rfl : k = 0 := by omega
      have hadd := fun W => run_string_add_sum (P := Tryz.prog) (w := W) ⟨#[109]⟩ B (by have := hs.out; have := Hn.out; show 1 + B.size ≤ _; omega)
      go_wp2
      go_ret
      exact ⟨ret_str (by unfold markB; rw [← Hd.out, digB_zero]; simp; first | done | rfl), hb⟩

/-- The marks from k on. -/
def marksL : Nat → Nat → List ByteArray
  | _, 0 => []
  | k, n + 1 => markB k :: marksL (k + 1) n
theorem marksL_length (k n : Nat) : (marksL k n).length = n := by
  induction n generalizing k with
  | zero => rfl
  | succ n ih => simp [marksL, ih]
theorem marksL_get (k n j : Nat) (h : j < (marksL k n).length) : (marksL k n)[j] = markB (k + j) := by
  induction n generalizing k j with
  | zero => simp [marksL] at h
  | succ n ih =>
    cases j with
    | zero => rfl
    | succ j =>
      simp only [marksL, List.getElem_cons_succ]
      rw [ih]
      congr 1
      omega
theorem marksL_snoc (k j : Nat) : marksL k (j + 1) = marksL k j ++ [markB (k + j)] := by
  apply List.ext_getElem
  · simp [marksL_length]
  · intro i h1 h2
    rw [marksL_get]
    by_cases h : i < j
    · rw [List.getElem_append_left (by rw [marksL_length]; exact h), marksL_get]
    · have hi : i = j := by simp [marksL_length] at h1; omega
      subst hi
      rw [List.getElem_append_right (by rw [marksL_length]; omega)]
      simp

theorem own_forms {w : World} {base size n : Nat} {e : TypeId} {v : Value} {xs : List Value} (h : w.ownsRow base e size v n xs) : (v = .slice none 0 0 ∧ n = 0) ∨ ∃ g cap, v = .slice (some ⟨g, 0, none⟩) n cap := by
  rcases h.2 with h0 | ⟨g, cap, _, hv, _⟩
  · exact Or.inl h0
  · exact Or.inr ⟨g, cap, hv⟩

/-- A list of strings in memory. -/
def StrRow (w : World) (v : Value) (l : List ByteArray) : Prop :=
  ∃ p cap, v = .slice p l.length cap ∧ (0 < l.length → ∃ g o, p = some ⟨g, o, none⟩ ∧ g < w.heap.size ∧ ∀ j (h : j < l.length), w.cell? ⟨g, o + j, none⟩ = some (.string l[j]))

theorem StrRow.below {w w' : World} {v : Value} {l : List ByteArray} (h : StrRow w v l) (k : Below w.heap.size w w') : StrRow w' v l := by
  obtain ⟨p, cap, rfl, h⟩ := h
  refine ⟨p, cap, rfl, fun hl => ?_⟩
  obtain ⟨g, o, rfl, hg, hc⟩ := h hl
  exact ⟨g, o, rfl, Nat.lt_of_lt_of_le hg k.size, fun j hj => (k.cell (p := ⟨g, o + j, none⟩) hg).trans (hc j hj)⟩

theorem StrRow.owned {w : World} {base : Nat} {e : TypeId} {v : Value} {l : List ByteArray} (h : w.ownsRow base e 1 v l.length (l.map Value.string)) : StrRow w v l := by
  rcases own_forms h with ⟨rfl, h0⟩ | ⟨g, cap, rfl⟩
  · exact ⟨none, 0, by rw [h0], fun hl => by omega⟩
  · refine ⟨_, cap, rfl, fun hl => ⟨g, 0, rfl, ((h.lt g rfl).2), fun j hj => ?_⟩⟩
    rw [Nat.zero_add, h.cellAt j (by omega)]
    simp [List.getElem?_eq_getElem hj]

set_option maxRecDepth 100000 in
/-- laws.eqStringS of two lists that are one. -/
theorem eqStringS_same (v1 v2 : Value) (l : List ByteArray) (hl : l.length ≤ 1099511627776) (w : World) (h1 : StrRow w v1 l) (h2 : StrRow w v2 l) :
    Calls Tryz.prog 21 #[v1, v2] w fun e w' => e = .returned (.bool true) ∧ Below w.heap.size w w' := by
  obtain ⟨p1, c1, rfl, r1⟩ := h1
  obtain ⟨p2, c2, rfl, r2⟩ := h2
  have R1 := Lib.hid r1
  have R2 := Lib.hid r2
  have Hl := Lib.hid hl
  clear r1 r2 hl
  obtain ⟨n, hn⟩ : ∃ n : Nat, l.length = n := ⟨_, rfl⟩
  have Hn := Lib.hid hn
  rw [hn]
  clear hn
  go_enter Tryz.func21, Tryz.ntmps21
  go_wp2
  go_loopw [5] (fun i wr => ∃ k : Nat, i = .int .i64 (k : Int) ∧ k ≤ n ∧ Below w.heap.size w wr) (fun i _ => n - (intOf i).toNat)
  case atStart => exact ⟨0, rfl, Nat.zero_le _, Below.refl _ _⟩
  case round =>
    obtain ⟨k, rfl, hk, hb⟩ := hrel
    by_cases hlt : k < n
    · have hlt2 : (k : Int) < (n : Int) := by omega
      have hnb : (n : Int) ≤ 1099511627776 := by have := Hl.out; have := Hn.out; omega
      obtain ⟨g1, o1, rfl, hg1, hc1⟩ := R1.out (by have := Hn.out; omega)
      obtain ⟨g2, o2, rfl, hg2, hc2⟩ := R2.out (by have := Hn.out; omega)
      have d1 : wr.cell? ⟨g1, o1 + k, none⟩ = some (.string (l[k]'(by have := Hn.out; omega))) := (hb.cell (p := ⟨g1, o1 + k, none⟩) hg1).trans (hc1 k _)
      have d2 : wr.cell? ⟨g2, o2 + k, none⟩ = some (.string (l[k]'(by have := Hn.out; omega))) := (hb.cell (p := ⟨g2, o2 + k, none⟩) hg2).trans (hc2 k _)
      clear hc1 hc2
      generalize l[k]'(by have := Hn.out; omega) = s at *
      go_wp2
      go_quiet (fail)
      go_wp2
      go_roundw
      case rel => exact ⟨k + 1, by go_num, by omega, below_drewN hb _⟩
      case measure => simp [intOf]; omega
    · have hlt2 : (n : Int) ≤ (k : Int) := by omega
      go_wp2
      go_ret
      exact ⟨rfl, hb⟩

set_option maxRecDepth 100000 in
/-- laws.markStringS -/
theorem markStringS_any (base k0 n : Nat) (v : Value) (xs : List Value) (h0 : 0 < k0) (hk : k0 ≤ 549755813888) (hn : n ≤ 549755813888) (w : World) (h : w.ownsRow base 9 1 v n xs) (hbase : base ≤ w.heap.size) :
    Calls Tryz.prog 23 #[v, .int .i64 (k0 : Int)] w fun e w' => e = .returned (.int .i64 ((k0 : Int) + (n : Int))) ∧ w'.ownsRow base 9 1 v n ((marksL k0 n).map Value.string) ∧ Below base w w' := by
  have hform : ∃ p cap, v = .slice p n cap ∧ (0 < n → ∃ g, p = some ⟨g, 0, none⟩ ∧ base ≤ g) := by
    rcases own_forms h with ⟨rfl, h0⟩ | ⟨g, cap, rfl⟩
    · exact ⟨none, 0, by rw [h0], fun hl => by omega⟩
    · exact ⟨_, cap, rfl, fun hl => ⟨g, rfl, (h.lt g rfl).1⟩⟩
  have hxs : xs.length = n := by have := h.1; omega
  obtain ⟨p, cap, rfl, hp⟩ := hform
  have Hp := Lib.hid hp
  have Hx := Lib.hid hxs
  have Hkb := Lib.hid (show k0 ≤ 549755813888 ∧ n ≤ 549755813888 from ⟨hk, hn⟩)
  have Ho := Lib.hid h
  clear hp hxs h
  go_enter Tryz.func23, Tryz.ntmps23
  go_wp2
  go_loopw [1, 5] (fun kk i wr => ∃ j : Nat, i = .int .i64 (j : Int) ∧ kk = .int .i64 ((k0 : Int) + (j : Int)) ∧ j ≤ n ∧ Hid (wr.ownsRow base 9 1 (.slice p n cap) n ((marksL k0 j).map Value.string ++ xs.drop j)) ∧ Below base w wr) (fun _ i _ => n - (intOf i).toNat)
  case atStart => exact ⟨0, rfl, by go_num, Nat.zero_le _, Lib.hid (by simpa [marksL] using Ho.out), Below.refl _ _⟩
  case round =>
    obtain ⟨j, rfl, rfl, hj, Hown, hb⟩ := hrel
    have hbs := hb.size
    by_cases hlt : j < n
    · have hlt2 : (j : Int) < (n : Int) := by omega
      have hkj : (k0 : Int) + (j : Int) ≤ 1099511627776 := by have := Hkb.out; omega
      obtain ⟨g, rfl, hg⟩ := Hp.out (by omega)
      have Hc : Hid (∀ W, Calls Tryz.prog 43 #[.int .i64 ((k0 : Int) + (j : Int))] W fun e w' => e = .returned (.string (markB (k0 + j))) ∧ Below W.heap.size W w') :=
        Lib.hid fun W => by rw [← Int.natCast_add]; exact markText_any (k0 + j) (by omega) (by have := Hkb.out; omega) W
      go_wp2_with fail
      refine (Hc.out _).mono ?_
      rintro e w1 ⟨rfl, k1⟩
      have hown1 := own_below Hown.out k1
      have hjl : j < ((marksL k0 j).map Value.string ++ xs.drop j).length := by simp [marksL_length]; have := Hx.out; omega
      have d0 : w1.cell? ⟨g, j, none⟩ = some (((marksL k0 j).map Value.string ++ xs.drop j)[j]'hjl) := by rw [hown1.cellAt j (by omega), List.getElem?_eq_getElem hjl]
      have f0 := hown1.frozenAt j
      have hst := hown1.stored j (.string (markB (k0 + j)))
      have e1 : ((marksL k0 j).map Value.string ++ xs.drop j).set j (.string (markB (k0 + j))) = (marksL k0 (j + 1)).map Value.string ++ xs.drop (j + 1) := by
        have h2 : xs.drop j = (xs[j]'(by have := Hx.out; omega)) :: xs.drop (j + 1) := List.drop_eq_getElem_cons _
        rw [h2, List.set_append_right _ _ (by simp [marksL_length]), show j - (List.map Value.string (marksL k0 j)).length = 0 from by simp [marksL_length], List.set_cons_zero, marksL_snoc]
        simp
      rw [e1] at hst
      have Hst := Lib.hid hst.1
      clear hst e1 hown1
      generalize ((marksL k0 j).map Value.string ++ xs.drop j)[j]'hjl = old at *
      have hb1 : Below base w w1 := hb.trans (k1.mono (by omega))
      clear k1
      go_wp2
      go_roundw
      case rel => exact ⟨j + 1, by go_num, by go_num, by omega, Hst, hb1.setCell hg _⟩
      case measure => simp [intOf]; omega
    · have hlt2 : (n : Int) ≤ (j : Int) := by omega
      obtain rfl : j = n := by omega
      go_wp2
      go_ret
      refine ⟨rfl, ?_, hb⟩
      have h3 := Hown.out
      rw [List.drop_of_length_le (by have := Hx.out; omega), List.append_nil] at h3
      exact h3

set_option maxRecDepth 100000 in
/-- laws.heldStringS of marks. -/
theorem heldStringS_any (k0 n : Nat) (v : Value) (h0 : 0 < k0) (hk : k0 ≤ 549755813888) (hn : n ≤ 549755813888) (w : World) (h : StrRow w v (marksL k0 n)) :
    Calls Tryz.prog 25 #[v, .int .i64 (k0 : Int)] w fun e w' => e = .returned (.int .i64 ((k0 : Int) + (n : Int))) ∧ Below w.heap.size w w' := by
  obtain ⟨p, cap, rfl, r⟩ := h
  have Hkb := Lib.hid (show k0 ≤ 549755813888 ∧ n ≤ 549755813888 from ⟨hk, hn⟩)
  have R := Lib.hid r
  rw [marksL_length]
  clear r
  go_enter Tryz.func25, Tryz.ntmps25
  go_wp2
  go_loopw [1, 5] (fun kk i wr => ∃ j : Nat, i = .int .i64 (j : Int) ∧ kk = .int .i64 ((k0 : Int) + (j : Int)) ∧ j ≤ n ∧ Below w.heap.size w wr) (fun _ i _ => n - (intOf i).toNat)
  case atStart => exact ⟨0, rfl, by go_num, Nat.zero_le _, Below.refl _ _⟩
  case round =>
    obtain ⟨j, rfl, rfl, hj, hb⟩ := hrel
    have hbs := hb.size
    by_cases hlt : j < n
    · have hlt2 : (j : Int) < (n : Int) := by omega
      have hkj : (k0 : Int) + (j : Int) ≤ 1099511627776 := by have := Hkb.out; omega
      obtain ⟨g, o, rfl, hg, hc⟩ := R.out (by rw [marksL_length]; omega)
      have d0 : wr.cell? ⟨g, o + j, none⟩ = some (.string (markB (k0 + j))) := by
        rw [← marksL_get k0 n j (by rw [marksL_length]; exact hlt)]
        exact (hb.cell (p := ⟨g, o + j, none⟩) hg).trans (hc j _)
      clear hc
      have hgl : g < wr.heap.size := by omega
      have Hc : Hid (∀ W, Calls Tryz.prog 43 #[.int .i64 ((k0 : Int) + (j : Int))] W fun e w' => e = .returned (.string (markB (k0 + j))) ∧ Below W.heap.size W w') :=
        Lib.hid fun W => by rw [← Int.natCast_add]; exact markText_any (k0 + j) (by omega) (by have := Hkb.out; omega) W
      generalize markB (k0 + j) = s at *
      go_wp2_with fail
      have hx2 := fun (u : World) (b o : Nat) (h : b < wr.heap.size) => ext_cell wr u b o h
      refine wp_region_ext (by kernel_rfl) (by kernel_rfl) wr.heap.size ?_
      repeat (any_goals (go_big_quiet_step ((go_at_call 43; exact calls_ext (by first | (simp; done) | omega | (simp; omega)) (Hc.out _)))))
      refine wpQuiet_nil ?_
      intro w2 hb2
      clear hx2
      go_wp2
      go_roundw
      case rel => exact ⟨j + 1, by go_num, by go_num, by omega, below_after hb2 hb⟩
      case measure => simp [intOf]; omega
    · have hlt2 : (n : Int) ≤ (j : Int) := by omega
      obtain rfl : j = n := by omega
      go_wp2
      go_ret
      exact ⟨rfl, hb⟩

end Go.Proofs.YtpiheobpobclgaaGreatDoor


/- Lists of strings: counted, copied, encoded. -/
namespace Go.Proofs.YtpiheobpobclgaaGreatDoor
open Go.RowKit

/-- The texts' encodings, one behind another. -/
def textsL : List ByteArray → ByteArray
  | [] => ⟨#[]⟩
  | s :: l => textB s ++ textsL l
theorem textsL_snoc (l : List ByteArray) (s : ByteArray) : textsL (l ++ [s]) = textsL l ++ textB s := by
  induction l with
  | nil => exact (ByteArray.append_empty (b := textB s)).trans (ByteArray.empty_append (b := textB s)).symm
  | cons a l ih => simp [textsL, ih, ByteArray.append_assoc]
def textsB (l : List ByteArray) : ByteArray := numB l.length ++ textsL l
/-- The strings' bytes together. -/
def sumSize : List ByteArray → Nat
  | [] => 0
  | s :: l => s.size + sumSize l
theorem textB_size (s : ByteArray) : (textB s).size ≤ 2 * s.size + 1 := by
  unfold textB
  rw [ByteArray.size_append]
  have := numB_size s.size
  omega
theorem textsL_size (l : List ByteArray) : (textsL l).size ≤ 2 * sumSize l + l.length := by
  induction l with
  | nil => exact Nat.zero_le _
  | cons a l ih =>
    have := textB_size a
    simp only [textsL, ByteArray.size_append, sumSize, List.length_cons]
    omega
theorem sumSize_take (l : List ByteArray) (k : Nat) (h : k < l.length) : sumSize (l.take (k + 1)) = sumSize (l.take k) + l[k].size := by
  rw [List.take_succ_eq_append_getElem h]
  have : ∀ a b : List ByteArray, sumSize (a ++ b) = sumSize a + sumSize b := by
    intro a b
    induction a with
    | nil => simp [sumSize]
    | cons x a ih => simp only [List.cons_append, sumSize, ih]; omega
  rw [this]
  simp [sumSize]
theorem sumSize_le (l : List ByteArray) (k : Nat) : sumSize (l.take k) ≤ sumSize l := by
  induction l generalizing k with
  | nil => simp [sumSize]
  | cons a l ih =>
    cases k with
    | zero => simp [sumSize]
    | succ k => simp only [List.take_succ_cons, sumSize]; have := ih k; omega
theorem sumSize_get (l : List ByteArray) (k : Nat) (h : k < l.length) : l[k].size ≤ sumSize l := by
  have h1 := sumSize_take l k h
  have h2 := sumSize_le l (k + 1)
  omega

end Go.Proofs.YtpiheobpobclgaaGreatDoor


/- laws.szStringS, laws.toStringS. -/
namespace Go.Proofs.YtpiheobpobclgaaGreatDoor
open Go.RowKit

/-- What szStringS says: less than nothing, or how much is left. -/
def SzPost (l : List ByteArray) (left : Int) (w : World) (e : Ending) (w' : World) : Prop :=
  w = w' ∧ ((e = .returned (.int .i64 (left - l.length - sumSize l)) ∧ 0 ≤ left - (l.length : Int) - (sumSize l : Int)) ∨ (e = .returned (.int .i64 (-1)) ∧ left - (l.length : Int) - (sumSize l : Int) < 0))

end Go.Proofs.YtpiheobpobclgaaGreatDoor


/- laws.toStringS. -/
namespace Go.Proofs.YtpiheobpobclgaaGreatDoor
open Go.RowKit

end Go.Proofs.YtpiheobpobclgaaGreatDoor


/- What a call may turn: some blocks, nothing else. Rows of which one element is turned. Plain lemmas; no program. -/
namespace Go.Proofs.YtpiheobpobclgaaGreatDoor
open Go.RowKit

/-- Nothing that was there is turned but in the blocks fp. -/
structure Touch (fp : List Nat) (w w' : World) : Prop where
  os : w'.os = w.os
  tape : w'.tape = w.tape
  output : w'.output = w.output
  size : w.heap.size ≤ w'.heap.size
  block : ∀ b, b < w.heap.size → b ∉ fp → w'.heap[b]? = w.heap[b]?

theorem Touch.refl (fp : List Nat) (w : World) : Touch fp w w := ⟨rfl, rfl, rfl, Nat.le_refl _, fun _ _ _ => rfl⟩
theorem Touch.trans {fp : List Nat} {a b d : World} (h : Touch fp a b) (k : Touch fp b d) : Touch fp a d :=
  ⟨k.os.trans h.os, k.tape.trans h.tape, k.output.trans h.output, Nat.le_trans h.size k.size, fun i h1 h2 => (k.block i (Nat.lt_of_lt_of_le h1 h.size) h2).trans (h.block i h1 h2)⟩
theorem Touch.mono {fp fq : List Nat} {w w' : World} (h : Touch fp w w') (k : ∀ b ∈ fp, b ∈ fq) : Touch fq w w' := ⟨h.os, h.tape, h.output, h.size, fun i h1 h2 => h.block i h1 fun h3 => h2 (k i h3)⟩
theorem touch_below {fp : List Nat} {w w' : World} (k : Below w.heap.size w w') : Touch fp w w' := ⟨k.os, k.tape, k.output, k.size, fun i h1 _ => k.block i h1⟩
theorem touch_set {fp : List Nat} {w : World} {p : Addr} {u : Value} (h : p.block ∈ fp) : Touch fp w (w.setCell p u) :=
  ⟨rfl, rfl, rfl, by simp, fun i _ h2 => heap_setCell_other w p i u (fun e => h2 (e ▸ h))⟩
theorem Touch.below {fp : List Nat} {w w' : World} {base : Nat} (h : Touch fp w w') (hb : base ≤ w.heap.size) (k : ∀ b ∈ fp, base ≤ b) : Below base w w' :=
  ⟨h.os, h.tape, h.output, h.size, fun i hi => h.block i (by omega) fun h2 => by have := k i h2; omega⟩

section
variable {α : Type} {c : Cod α} {w w' : World} {fp : List Nat}

theorem rdS_touch {fq : List Nat} {v : Value} {xs : List α} (h : Cod.rdS c w v xs fq) (k : Touch fp w w') (hd : ∀ b ∈ fq, b ∉ fp) : Cod.rdS c w' v xs fq :=
  Cod.rdS_frame c (fun b hb => k.block b (Cod.rdS_old c h b hb) (hd b hb)) h
theorem Mine.touch {base : Nat} {fq : List Nat} (h : Mine w base fq) (hlt : ∀ b ∈ fq, b < w.heap.size) (k : Touch fp w w') (hd : ∀ b ∈ fq, b ∉ fp) : Mine w' base fq :=
  h.frame fun b hb => k.block b (hlt b hb) (hd b hb)

/-- One element turned. -/
theorem elems_set {b off : Nat} {xs : List α} {fs : List (List Nat)} (h : Cod.elems c w b off xs fs) (k : Nat) (hk : k < xs.length) (x' : α)
    (hx : ∀ f, fs[k]? = some f → c.rd w' (cellsAt w' b (off + k * c.size)) x' f)
    (hcells : ∀ i, (i < off + k * c.size ∨ off + (k + 1) * c.size ≤ i) → w'.cell? ⟨b, i, none⟩ = w.cell? ⟨b, i, none⟩)
    (hfs : ∀ j, j ≠ k → ∀ f, fs[j]? = some f → ∀ d ∈ f, w'.heap[d]? = w.heap[d]?) : Cod.elems c w' b off (xs.set k x') fs := by
  refine Cod.elems_of c (by rw [List.length_set]; exact Cod.elems_length c h) fun j hj f hf => ?_
  have hjl : j < xs.length := by simpa using hj
  by_cases e : j = k
  · subst e
    rw [List.getElem_set_self]
    exact hx f hf
  · rw [List.getElem_set_ne (fun e' => e e'.symm)]
    obtain ⟨f', hf', hr⟩ := Cod.elems_at c h j hjl
    rw [hf] at hf'
    obtain rfl := Option.some.inj hf'
    refine c.ext (fun i hi => ?_) (c.frame (hfs j e f hf) hr)
    show w.cell? ⟨b, off + j * c.size + i, none⟩ = w'.cell? ⟨b, off + j * c.size + i, none⟩
    refine (hcells _ ?_).symm
    rcases Nat.lt_or_gt_of_ne e with h1 | h1
    · left
      have : (j + 1) * c.size ≤ k * c.size := Nat.mul_le_mul_right _ h1
      rw [Nat.add_mul] at this
      omega
    · right
      have : (k + 1) * c.size ≤ j * c.size := Nat.mul_le_mul_right _ h1
      omega

/-- The blocks of an element lie apart from the row's own and from the others'. -/
theorem fp_apart {b : Nat} {fs : List (List Nat)} (h : (b :: fs.flatten).Nodup) {k : Nat} {f : List Nat} (hf : fs[k]? = some f) :
    (b ∉ f) ∧ ∀ j, j ≠ k → ∀ f', fs[j]? = some f' → ∀ d ∈ f', d ∉ f ∧ d ≠ b := by
  rw [List.nodup_cons] at h
  obtain ⟨hb, hn⟩ := h
  have hmem : ∀ {i : Nat} {g : List Nat}, fs[i]? = some g → ∀ d ∈ g, d ∈ fs.flatten := fun hi d hd => List.mem_flatten.2 ⟨_, List.mem_of_getElem? hi, hd⟩
  refine ⟨fun h1 => hb (hmem hf b h1), fun j hj f' hf' d hd => ⟨fun h1 => ?_, fun e => hb (e ▸ hmem hf' d hd)⟩⟩
  have hp := (List.pairwise_flatten.1 hn).2
  rw [List.pairwise_iff_getElem] at hp
  have hjl := (List.getElem?_eq_some_iff.1 hf')
  have hkl := (List.getElem?_eq_some_iff.1 hf)
  obtain ⟨hjl, rfl⟩ := hjl
  obtain ⟨hkl, rfl⟩ := hkl
  rcases Nat.lt_or_gt_of_ne hj with h2 | h2
  · exact hp j k hjl hkl h2 d hd d h1 rfl
  · exact hp k j hkl hjl h2 d h1 d hd rfl
end
end Go.Proofs.YtpiheobpobclgaaGreatDoor


/- What is marked: cells in a row, each of a kind. Plain lemmas; no program. -/
namespace Go.Proofs.YtpiheobpobclgaaGreatDoor
open Go.RowKit

def goneK (k : Nat) : Bool := decide ((k : Int) % 3 = 0)

/-- The kinds of cells that are marked. -/
inductive MK where
  | int
  | str
  | bool

def MK.val : MK → Nat → Value
  | .int, k => .int .i64 (k : Int)
  | .str, k => .string (markB k)
  | .bool, k => .bool (goneK k)

/-- The cells of a datum: its own, and the blocks that it leads to. -/
def Ter (b o n : Nat) (f : List Nat) (a : Addr) : Prop := (a.block = b ∧ o ≤ a.off ∧ a.off < o + n) ∨ a.block ∈ f

theorem ter_apart {b o n m : Nat} {f g : List Nat} {a : Addr} (hn : (b :: (f ++ g)).Nodup) (h : Ter b o n f a) (k : Ter b (o + n) m g a) : False := by
  rw [List.nodup_cons, List.mem_append] at hn
  obtain ⟨hb, hn⟩ := hn
  rcases h with ⟨h1, h2, h3⟩ | h
  · rcases k with ⟨_, k2, _⟩ | k
    · omega
    · exact hb (Or.inr (h1 ▸ k))
  · rcases k with ⟨k1, _, _⟩ | k
    · exact hb (Or.inl (k1 ▸ h))
    · exact (List.nodup_append.1 hn).2.2 _ h _ k rfl
theorem nodup_left {b : Nat} {f g : List Nat} (h : (b :: (f ++ g)).Nodup) : (b :: f).Nodup := by
  rw [List.nodup_cons, List.mem_append] at h
  exact List.nodup_cons.2 ⟨fun k => h.1 (Or.inl k), (List.nodup_append.1 h.2).1⟩
theorem nodup_right {b : Nat} {f g : List Nat} (h : (b :: (f ++ g)).Nodup) : (b :: g).Nodup := by
  rw [List.nodup_cons, List.mem_append] at h
  exact List.nodup_cons.2 ⟨fun k => h.1 (Or.inr k), (List.nodup_append.1 h.2).2.1⟩

/-- A datum as what marks it sees it: the cells that are marked, one after another; and how it must lie. -/
structure PT where
  size : Nat
  plan : World → Nat → Nat → List (Addr × MK)
  ok : World → Nat → Nat → List Nat → Prop
  old : ∀ {w : World} {b o : Nat} {f : List Nat}, ok w b o f → ∀ d ∈ f, d < w.heap.size
  ter : ∀ {w : World} {b o : Nat} {f : List Nat}, ok w b o f → ∀ x ∈ plan w b o, Ter b o size f x.1
  cell : ∀ {w : World} {b o : Nat} {f : List Nat}, ok w b o f → ∀ x ∈ plan w b o, ∃ u, w.cell? x.1 = some u
  nodup : ∀ {w : World} {b o : Nat} {f : List Nat}, ok w b o f → (b :: f).Nodup → ((plan w b o).map Prod.fst).Nodup
  stay : ∀ {w w' : World} {b o : Nat} {f : List Nat}, ok w b o f → (b :: f).Nodup → w.heap.size ≤ w'.heap.size →
    (∀ a, Ter b o size f a → a ∉ (plan w b o).map Prod.fst → w'.cell? a = w.cell? a) → (∀ x ∈ plan w b o, ∃ u, w'.cell? x.1 = some u) → ok w' b o f ∧ plan w' b o = plan w b o

namespace PT

def unit : PT where
  size := 0
  plan _ _ _ := []
  ok _ _ _ f := f = []
  old h := fun d hd => by rw [h] at hd; cases hd
  ter _ := fun _ hx => by cases hx
  cell _ := fun _ hx => by cases hx
  nodup _ _ := List.nodup_nil
  stay h _ _ _ _ := ⟨h, rfl⟩

/-- A cell that is marked. -/
def sc (m : MK) : PT where
  size := 1
  plan _ b o := [(⟨b, o, none⟩, m)]
  ok w b o f := (∃ u, w.cell? ⟨b, o, none⟩ = some u) ∧ f = []
  old h := fun d hd => by rw [h.2] at hd; cases hd
  ter _ := fun x hx => by
    obtain rfl := List.mem_singleton.1 hx
    exact Or.inl ⟨rfl, Nat.le_refl _, Nat.lt_succ_self _⟩
  cell h := fun x hx => by
    obtain rfl := List.mem_singleton.1 hx
    exact h.1
  nodup _ _ := List.nodup_cons.2 ⟨(by simp), List.nodup_nil⟩
  stay h _ _ _ hc := ⟨⟨hc _ (List.mem_singleton.2 rfl), h.2⟩, rfl⟩

def pair (p q : PT) : PT where
  size := p.size + q.size
  plan w b o := p.plan w b o ++ q.plan w b (o + p.size)
  ok w b o f := ∃ f1 f2, f = f1 ++ f2 ∧ p.ok w b o f1 ∧ q.ok w b (o + p.size) f2
  old := fun ⟨f1, f2, e, h1, h2⟩ d hd => by
    rw [e, List.mem_append] at hd
    rcases hd with hd | hd
    · exact p.old h1 d hd
    · exact q.old h2 d hd
  ter := fun ⟨f1, f2, e, h1, h2⟩ x hx => by
    rw [e]
    rcases List.mem_append.1 hx with hx | hx
    · rcases p.ter h1 x hx with ⟨a, b, c⟩ | h
      · exact Or.inl ⟨a, b, by omega⟩
      · exact Or.inr (List.mem_append_left _ h)
    · rcases q.ter h2 x hx with ⟨a, b, c⟩ | h
      · exact Or.inl ⟨a, by omega, by omega⟩
      · exact Or.inr (List.mem_append_right _ h)
  cell := fun ⟨f1, f2, e, h1, h2⟩ x hx => by
    rcases List.mem_append.1 hx with hx | hx
    · exact p.cell h1 x hx
    · exact q.cell h2 x hx
  nodup := fun ⟨f1, f2, e, h1, h2⟩ hn => by
    rw [e] at hn
    rw [List.map_append]
    refine List.nodup_append.2 ⟨p.nodup h1 (nodup_left hn), q.nodup h2 (nodup_right hn), fun a ha b hb hab => ?_⟩
    obtain ⟨x, hx, rfl⟩ := List.mem_map.1 ha
    obtain ⟨y, hy, rfl⟩ := List.mem_map.1 hb
    have := q.ter h2 y hy
    rw [← hab] at this
    exact ter_apart hn (p.ter h1 x hx) this
  stay := fun {w w' b o f} ⟨f1, f2, e, h1, h2⟩ hn hs hk hc => by
    rw [e] at hn hk
    have s1 := p.stay h1 (nodup_left hn) hs (fun a ha hna => hk a (by
      rcases ha with ⟨a1, a2, a3⟩ | ha
      · exact Or.inl ⟨a1, a2, by omega⟩
      · exact Or.inr (List.mem_append_left _ ha)) (fun hm => by
        rw [List.map_append, List.mem_append] at hm
        rcases hm with hm | hm
        · exact hna hm
        · obtain ⟨y, hy, rfl⟩ := List.mem_map.1 hm
          exact ter_apart hn ha (q.ter h2 y hy))) (fun x hx => hc x (List.mem_append_left _ hx))
    have s2 := q.stay h2 (nodup_right hn) hs (fun a ha hna => hk a (by
      rcases ha with ⟨a1, a2, a3⟩ | ha
      · exact Or.inl ⟨a1, by omega, by omega⟩
      · exact Or.inr (List.mem_append_right _ ha)) (fun hm => by
        rw [List.map_append, List.mem_append] at hm
        rcases hm with hm | hm
        · obtain ⟨y, hy, rfl⟩ := List.mem_map.1 hm
          exact ter_apart hn (p.ter h1 y hy) ha
        · exact hna hm)) (fun x hx => hc x (List.mem_append_right _ hx))
    exact ⟨⟨f1, f2, e, s1.1, s2.1⟩, by rw [s1.2, s2.2]⟩

/-- n data, one behind the other. -/
def rows (p : PT) : Nat → PT
  | 0 => unit
  | n + 1 => pair p (rows p n)

theorem rows_size (p : PT) (n : Nat) : (rows p n).size = n * p.size := by
  induction n with
  | zero => rw [Nat.zero_mul]; rfl
  | succ n ih => show p.size + (rows p n).size = _; rw [ih, Nat.add_mul, Nat.one_mul, Nat.add_comm]

theorem rows_plan (p : PT) (w : World) (b m : Nat) : ∀ (j o : Nat), (rows p (j + m)).plan w b o = (rows p j).plan w b o ++ (rows p m).plan w b (o + j * p.size) := by
  intro j
  induction j with
  | zero => intro o; rw [Nat.zero_mul, Nat.add_zero, Nat.zero_add]; rfl
  | succ j ih =>
    intro o
    rw [show j + 1 + m = (j + m) + 1 from by omega]
    show p.plan w b o ++ (rows p (j + m)).plan w b (o + p.size) = (p.plan w b o ++ (rows p j).plan w b (o + p.size)) ++ _
    rw [ih, List.append_assoc, show o + p.size + j * p.size = o + (j + 1) * p.size from by rw [Nat.add_mul]; omega]

theorem rows_ok (p : PT) (w : World) (b m : Nat) : ∀ (j o : Nat) (f : List Nat), (rows p (j + m)).ok w b o f → ∃ f1 f2, f = f1 ++ f2 ∧ (rows p j).ok w b o f1 ∧ (rows p m).ok w b (o + j * p.size) f2 := by
  intro j
  induction j with
  | zero => intro o f h; rw [Nat.zero_mul, Nat.add_zero]; rw [Nat.zero_add] at h; exact ⟨[], f, rfl, rfl, h⟩
  | succ j ih =>
    intro o f h
    rw [show j + 1 + m = (j + m) + 1 from by omega] at h
    obtain ⟨f1, f2, rfl, h1, h2⟩ := h
    obtain ⟨f3, f4, rfl, h3, h4⟩ := ih _ _ h2
    refine ⟨f1 ++ f3, f4, by rw [List.append_assoc], ⟨f1, f3, rfl, h1, h3⟩, ?_⟩
    rw [show o + (j + 1) * p.size = o + p.size + j * p.size from by rw [Nat.add_mul]; omega]
    exact h4

theorem rows_snoc (p : PT) (w : World) (b o j : Nat) : (rows p (j + 1)).plan w b o = (rows p j).plan w b o ++ p.plan w b (o + j * p.size) := by
  rw [rows_plan]
  show _ ++ (p.plan w b _ ++ []) = _
  rw [List.append_nil]

/-- A slice, marked. -/
def planS (p : PT) (w : World) : Value → List (Addr × MK)
  | .slice (some ⟨b, o, _⟩) n _ => (rows p n).plan w b o
  | _ => []

def okS (p : PT) (w : World) (v : Value) (fp : List Nat) : Prop :=
  ∃ a n cap, v = .slice a n cap ∧ n ≤ cap ∧ cap ≤ maxLen ∧ (a = none → cap = 0) ∧ ((n = 0 ∧ fp = []) ∨ ∃ b o f, a = some ⟨b, o, none⟩ ∧ fp = b :: f ∧ b < w.heap.size ∧ (rows p n).ok w b o f)

theorem okS_old {p : PT} {w : World} {v : Value} {fp : List Nat} (h : okS p w v fp) : ∀ d ∈ fp, d < w.heap.size := by
  obtain ⟨a, n, cap, rfl, _, _, _, ⟨_, rfl⟩ | ⟨b, o, f, _, rfl, hb, h⟩⟩ := h
  · intro d hd; cases hd
  · intro d hd
    rcases List.mem_cons.1 hd with rfl | hd
    · exact hb
    · exact (rows p n).old h d hd
theorem planS_zero {p : PT} {w : World} {a : Option Addr} {cap : Nat} : planS p w (.slice a 0 cap) = [] := by
  cases a with
  | none => rfl
  | some a => rfl
theorem planS_in {p : PT} {w : World} {v : Value} {fp : List Nat} (h : okS p w v fp) : ∀ x ∈ planS p w v, x.1.block ∈ fp := by
  obtain ⟨a, n, cap, rfl, _, _, _, ⟨rfl, rfl⟩ | ⟨b, o, f, rfl, rfl, hb, h⟩⟩ := h
  · rw [planS_zero]; intro x hx; cases hx
  · intro x hx
    rcases (rows p n).ter h x hx with ⟨e, _⟩ | e
    · rw [e]; exact List.mem_cons_self
    · exact List.mem_cons_of_mem _ e
theorem planS_cell {p : PT} {w : World} {v : Value} {fp : List Nat} (h : okS p w v fp) : ∀ x ∈ planS p w v, ∃ u, w.cell? x.1 = some u := by
  obtain ⟨a, n, cap, rfl, _, _, _, ⟨rfl, rfl⟩ | ⟨b, o, f, rfl, rfl, hb, h⟩⟩ := h
  · rw [planS_zero]; intro x hx; cases hx
  · exact (rows p n).cell h
theorem planS_nodup {p : PT} {w : World} {v : Value} {fp : List Nat} (h : okS p w v fp) (hn : fp.Nodup) : ((planS p w v).map Prod.fst).Nodup := by
  obtain ⟨a, n, cap, rfl, _, _, _, ⟨rfl, rfl⟩ | ⟨b, o, f, rfl, rfl, hb, h⟩⟩ := h
  · rw [planS_zero]; exact List.nodup_nil
  · exact (rows p n).nodup h hn
theorem okS_stay {p : PT} {w w' : World} {v : Value} {fp : List Nat} (h : okS p w v fp) (hn : fp.Nodup) (hs : w.heap.size ≤ w'.heap.size)
    (hk : ∀ a : Addr, a.block ∈ fp → a ∉ (planS p w v).map Prod.fst → w'.cell? a = w.cell? a) (hc : ∀ x ∈ planS p w v, ∃ u, w'.cell? x.1 = some u) : okS p w' v fp ∧ planS p w' v = planS p w v := by
  obtain ⟨a, n, cap, rfl, h1, h2, h3, ⟨rfl, rfl⟩ | ⟨b, o, f, rfl, rfl, hb, h⟩⟩ := h
  · exact ⟨⟨a, 0, cap, rfl, h1, h2, h3, Or.inl ⟨rfl, rfl⟩⟩, by rw [planS_zero, planS_zero]⟩
  · have := (rows p n).stay h hn hs (fun x hx hnx => hk x (by
      rcases hx with ⟨e, _⟩ | e
      · rw [e]; exact List.mem_cons_self
      · exact List.mem_cons_of_mem _ e) hnx) hc
    exact ⟨⟨_, n, cap, rfl, h1, h2, h3, Or.inr ⟨b, o, f, rfl, rfl, Nat.lt_of_lt_of_le hb hs, this.1⟩⟩, this.2⟩

def arr (p : PT) : PT where
  size := 1
  plan w b o := match w.cell? ⟨b, o, none⟩ with
    | some v => planS p w v
    | none => []
  ok w b o f := ∃ v, w.cell? ⟨b, o, none⟩ = some v ∧ okS p w v f
  old := fun ⟨v, _, h⟩ => okS_old h
  ter := fun ⟨v, hv, h⟩ x hx => by
    simp only [hv] at hx
    exact Or.inr (planS_in h x hx)
  cell := fun ⟨v, hv, h⟩ x hx => by
    simp only [hv] at hx
    exact planS_cell h x hx
  nodup := fun ⟨v, hv, h⟩ hn => by
    simp only [hv]
    exact planS_nodup h (List.nodup_cons.1 hn).2
  stay := fun {w w' b o f} ⟨v, hv, h⟩ hn hs hk hc => by
    simp only [hv] at hk hc
    rw [List.nodup_cons] at hn
    have hv' : w'.cell? ⟨b, o, none⟩ = some v := by
      rw [hk ⟨b, o, none⟩ (Or.inl ⟨rfl, Nat.le_refl _, Nat.lt_succ_self _⟩) (fun hm => by
        obtain ⟨x, hx, he⟩ := List.mem_map.1 hm
        have := planS_in h x hx
        rw [he] at this
        exact hn.1 this), hv]
    have := okS_stay h hn.2 hs (fun a ha hna => hk a (Or.inr ha) hna) hc
    refine ⟨⟨v, hv', this.1⟩, ?_⟩
    simp only [hv, hv']
    exact this.2

theorem arr_plan {p : PT} {w : World} {b o : Nat} {v : Value} (h : w.cell? ⟨b, o, none⟩ = some v) : (arr p).plan w b o = planS p w v := by
  show (match w.cell? ⟨b, o, none⟩ with | some v => planS p w v | none => []) = _
  rw [h]

end PT

/-- A call that has stored the marks from k on into the cells of P, and else turned nothing that was there. -/
structure Stored (w w' : World) (P : List (Addr × MK)) (k : Nat) : Prop where
  os : w'.os = w.os
  tape : w'.tape = w.tape
  output : w'.output = w.output
  size : w.heap.size ≤ w'.heap.size
  same : ∀ a : Addr, a.block < w.heap.size → a ∉ P.map Prod.fst → w'.cell? a = w.cell? a
  frozen : ∀ a : Addr, a.block < w.heap.size → w'.frozen? a = w.frozen? a
  block : ∀ d, d < w.heap.size → (∀ x ∈ P, x.1.block ≠ d) → w'.heap[d]? = w.heap[d]?
  val : ∀ i (h : i < P.length), w'.cell? P[i].1 = some (P[i].2.val (k + i))

theorem stored_below {w w' : World} (k : Nat) (h : Below w.heap.size w w') : Stored w w' [] k :=
  ⟨h.os, h.tape, h.output, h.size, fun a ha _ => h.cell (p := a) ha, fun a ha => h.frozen (p := a) ha, fun d hd _ => h.block d hd, fun i hi => by cases hi⟩

theorem stored_set {w : World} {a : Addr} {u : Value} (m : MK) (k : Nat) (h : w.cell? a = some u) : Stored w (w.setCell a (m.val k)) [(a, m)] k := by
  refine ⟨rfl, rfl, rfl, by simp, fun x _ hx => World.cell?_setCell_other _ _ _ _ (fun e => hx (by rw [e]; simp)), fun x _ => World.frozen?_setCell _ _ _ _, fun d _ hx => ?_, fun i hi => ?_⟩
  · exact heap_setCell_other w a d _ (fun e => hx (a, m) (by simp) e.symm)
  · have hi0 : i = 0 := by simpa using hi
    subst hi0
    exact World.cell?_setCell_same _ _ _ h

theorem Stored.trans {a b c : World} {P Q : List (Addr × MK)} {k : Nat} (h : Stored a b P k) (g : Stored b c Q (k + P.length)) (hd : ∀ x ∈ P, x.1 ∉ Q.map Prod.fst) : Stored a c (P ++ Q) k := by
  refine ⟨g.os.trans h.os, g.tape.trans h.tape, g.output.trans h.output, Nat.le_trans h.size g.size, fun x hx hn => ?_, fun x hx => ?_, fun d hdl hn => ?_, fun i hi => ?_⟩
  · rw [List.map_append, List.mem_append] at hn
    rw [g.same x (Nat.lt_of_lt_of_le hx h.size) (fun e => hn (Or.inr e)), h.same x hx (fun e => hn (Or.inl e))]
  · rw [g.frozen x (Nat.lt_of_lt_of_le hx h.size), h.frozen x hx]
  · rw [g.block d (Nat.lt_of_lt_of_le hdl h.size) (fun x hx => hn x (List.mem_append_right _ hx)), h.block d hdl (fun x hx => hn x (List.mem_append_left _ hx))]
  · by_cases hip : i < P.length
    · have hv := h.val i hip
      rw [List.getElem_append_left hip]
      have hlt : (P[i].1).block < b.heap.size := World.block_lt_of_cell? _ _ hv
      rw [g.same _ hlt (hd _ (List.getElem_mem _)), hv]
    · rw [List.getElem_append_right (by omega)]
      have hq : i - P.length < Q.length := by rw [List.length_append] at hi; omega
      rw [g.val _ hq, show k + P.length + (i - P.length) = k + i from by omega]

theorem Stored.start {w w' : World} {k : Nat} (h : Stored w w' [] k) : Below w.heap.size w w' := ⟨h.os, h.tape, h.output, h.size, fun d hd => h.block d hd (fun _ hx => by cases hx)⟩
theorem stored_refl (w : World) (k : Nat) : Stored w w [] k := stored_below k (Below.refl _ _)

/-- One cell more. -/
theorem Stored.put {a b c : World} {P : List (Addr × MK)} {k n : Nat} {p : Addr} {u : Value} (m : MK) (h : Stored a b P k) (hb : Below b.heap.size b c) (hp : a.cell? p = some u) (hn : p ∉ P.map Prod.fst) (hk : n = k + P.length) :
    Stored a (c.setCell p (m.val n)) (P ++ [(p, m)]) k := by
  subst hk
  have hpl := World.block_lt_of_cell? _ _ hp
  have h1 : b.cell? p = some u := (h.same p hpl hn).trans hp
  have h2 : c.cell? p = some u := (hb.cell (p := p) (Nat.lt_of_lt_of_le hpl h.size)).trans h1
  refine h.trans ((stored_below (k + P.length) hb).trans (Q := [(p, m)]) (stored_set m _ h2) (fun x hx => by cases hx)) fun x hx hm => ?_
  have : x.1 = p := by simpa using hm
  exact hn (this ▸ List.mem_map.2 ⟨x, hx, rfl⟩)
/-- Marks of a slice more. -/
theorem Stored.call {a b c : World} {P Q : List (Addr × MK)} {k n : Nat} {f : List Nat} (h : Stored a b P k) (g : Stored b c Q n) (hk : n = k + P.length) (hq : ∀ x ∈ Q, x.1.block ∈ f) (hp : ∀ x ∈ P, x.1.block ∉ f) : Stored a c (P ++ Q) k := by
  subst hk
  refine h.trans g fun x hx hm => ?_
  obtain ⟨y, hy, e⟩ := List.mem_map.1 hm
  exact hp x hx (e ▸ hq y hy)
theorem Stored.at {a b : World} {P : List (Addr × MK)} {k : Nat} {p : Addr} {u : Value} (h : Stored a b P k) (hp : a.cell? p = some u) (hn : p ∉ P.map Prod.fst) : b.cell? p = some u :=
  (h.same p (World.block_lt_of_cell? _ _ hp) hn).trans hp
theorem Stored.fro {a b : World} {P : List (Addr × MK)} {k : Nat} {p : Addr} {u : Value} (h : Stored a b P k) (hp : a.cell? p = some u) (hf : a.frozen? p = false) : b.frozen? p = false :=
  (h.frozen p (World.block_lt_of_cell? _ _ hp)).trans hf

theorem notIn_nil (p : Addr) : p ∉ ([] : List (Addr × MK)).map Prod.fst := by simp
theorem notIn_snoc {p q : Addr} {m : MK} {P : List (Addr × MK)} (h : p ∉ P.map Prod.fst) (hq : p ≠ q) : p ∉ (P ++ [(q, m)]).map Prod.fst := by
  rw [List.map_append, List.mem_append]
  rintro (e | e)
  · exact h e
  · exact hq (by simpa using e)
theorem notIn_app {p : Addr} {P Q : List (Addr × MK)} {f : List Nat} (h : p ∉ P.map Prod.fst) (hq : ∀ x ∈ Q, x.1.block ∈ f) (hp : p.block ∉ f) : p ∉ (P ++ Q).map Prod.fst := by
  rw [List.map_append, List.mem_append]
  rintro (e | e)
  · exact h e
  · obtain ⟨y, hy, e⟩ := List.mem_map.1 e
    exact hp (e ▸ hq y hy)
theorem farAll_nil (f : List Nat) : ∀ x ∈ ([] : List (Addr × MK)), x.1.block ∉ f := fun _ hx => by cases hx
theorem farAll_snoc {P : List (Addr × MK)} {f : List Nat} {q : Addr} {m : MK} (h : ∀ x ∈ P, x.1.block ∉ f) (hq : q.block ∉ f) : ∀ x ∈ P ++ [(q, m)], x.1.block ∉ f := fun x hx => by
  rcases List.mem_append.1 hx with hx | hx
  · exact h x hx
  · obtain rfl := List.mem_singleton.1 hx
    exact hq
theorem farAll_app {P Q : List (Addr × MK)} {f g : List Nat} (h : ∀ x ∈ P, x.1.block ∉ f) (hq : ∀ x ∈ Q, x.1.block ∈ g) (hd : ∀ d ∈ g, d ∉ f) : ∀ x ∈ P ++ Q, x.1.block ∉ f := fun x hx => by
  rcases List.mem_append.1 hx with hx | hx
  · exact h x hx
  · exact hd _ (hq x hx)

/-- The marked cells hold the marks from k on. -/
def Marked (w : World) (P : List (Addr × MK)) (k : Nat) : Prop := ∀ i (h : i < P.length), w.cell? P[i].1 = some (P[i].2.val (k + i))

theorem Marked.left {w : World} {P Q : List (Addr × MK)} {k : Nat} (h : Marked w (P ++ Q) k) : Marked w P k := fun i hi => by
  have := h i (by rw [List.length_append]; omega)
  rwa [List.getElem_append_left hi] at this
theorem Marked.right {w : World} {P Q : List (Addr × MK)} {k : Nat} (h : Marked w (P ++ Q) k) : Marked w Q (k + P.length) := fun i hi => by
  have := h (P.length + i) (by rw [List.length_append]; omega)
  rw [List.getElem_append_right (by omega)] at this
  simp only [Nat.add_sub_cancel_left] at this
  rw [this, Nat.add_assoc]
theorem Marked.one {w : World} {a : Addr} {m : MK} {k : Nat} (h : Marked w [(a, m)] k) : w.cell? a = some (m.val k) := h 0 (by simp)

/-- A slice that holds the marks from k on. -/
def HeldS (p : PT) (w : World) (v : Value) (k L : Nat) : Prop := ∃ fp, PT.okS p w v fp ∧ fp.Nodup ∧ Marked w (PT.planS p w v) k ∧ (PT.planS p w v).length = L
/-- So does what lies from b, o on. -/
def HeldA (p : PT) (w : World) (b o k L : Nat) : Prop := ∃ f, p.ok w b o f ∧ (b :: f).Nodup ∧ b < w.heap.size ∧ Marked w (p.plan w b o) k ∧ (p.plan w b o).length = L

theorem marked_below {w w' : World} {P : List (Addr × MK)} {k : Nat} (h : Marked w P k) (hb : Below w.heap.size w w') : Marked w' P k := fun i hi => by
  have := h i hi
  rw [hb.cell (p := P[i].1) (World.block_lt_of_cell? _ _ this), this]

theorem HeldS.below {p : PT} {w w' : World} {v : Value} {k L : Nat} (h : HeldS p w v k L) (hb : Below w.heap.size w w') : HeldS p w' v k L := by
  obtain ⟨fp, ho, hn, hm, hl⟩ := h
  have hold := PT.okS_old ho
  have := PT.okS_stay ho hn hb.size (fun a ha _ => hb.cell (p := a) (hold _ ha)) (fun x hx => by
    obtain ⟨u, hu⟩ := PT.planS_cell ho x hx
    exact ⟨u, (hb.cell (p := x.1) (World.block_lt_of_cell? _ _ hu)).trans hu⟩)
  exact ⟨fp, this.1, hn, by rw [this.2]; exact marked_below hm hb, by rw [this.2]; exact hl⟩

theorem HeldA.below {p : PT} {w w' : World} {b o k L : Nat} (h : HeldA p w b o k L) (hb : Below w.heap.size w w') : HeldA p w' b o k L := by
  obtain ⟨f, ho, hn, hbl, hm, hl⟩ := h
  have hold := p.old ho
  have := p.stay ho hn hb.size (fun a ha _ => hb.cell (p := a) (by
    rcases ha with ⟨e, _⟩ | e
    · rw [e]; exact hbl
    · exact hold _ e)) (fun x hx => by
    obtain ⟨u, hu⟩ := p.cell ho x hx
    exact ⟨u, (hb.cell (p := x.1) (World.block_lt_of_cell? _ _ hu)).trans hu⟩)
  exact ⟨f, this.1, hn, Nat.lt_of_lt_of_le hbl hb.size, by rw [this.2]; exact marked_below hm hb, by rw [this.2]; exact hl⟩

/-- A slice that is to be held: its form and its elements. -/
theorem HeldS.form {p : PT} {w : World} {v : Value} {k L : Nat} (h : HeldS p w v k L) : ∃ (a : Option Addr) (n cap : Nat), v = .slice a n cap ∧ n ≤ cap ∧ cap ≤ maxLen ∧
    (n = 0 → L = 0) ∧ (0 < n → ∃ b o, a = some ⟨b, o, none⟩ ∧ b < w.heap.size ∧ L = ((PT.rows p n).plan w b o).length ∧
      ∀ j, j < n → HeldA p w b (o + j * p.size) (k + ((PT.rows p j).plan w b o).length) ((p.plan w b (o + j * p.size)).length)) := by
  obtain ⟨fp, ⟨a, n, cap, rfl, h1, h2, h3, h4⟩, hn, hm, hl⟩ := h
  refine ⟨a, n, cap, rfl, h1, h2, fun e => by subst e; rw [PT.planS_zero] at hl; exact hl.symm, fun hpos => ?_⟩
  rcases h4 with ⟨rfl, _⟩ | ⟨b, o, f, rfl, rfl, hb, h4⟩
  · omega
  · refine ⟨b, o, rfl, hb, hl.symm, fun j hj => ?_⟩
    obtain ⟨m, rfl⟩ : ∃ m, n = j + (m + 1) := ⟨n - j - 1, by omega⟩
    obtain ⟨f1, f2, rfl, k1, k2⟩ := PT.rows_ok _ _ _ _ _ _ _ h4
    obtain ⟨f3, f4, rfl, k3, k4⟩ := k2
    replace hm : Marked w ((PT.rows p (j + (m + 1))).plan w b o) k := hm
    rw [PT.rows_plan] at hm
    exact ⟨f3, k3, nodup_left (nodup_right hn), hb, (Marked.right hm).left, rfl⟩

/-- One element, ahead of its marks. -/
theorem round_open {p : PT} {w wr : World} {b o n j k : Nat} {f : List Nat} (hok : (PT.rows p n).ok w b o f) (hb : b < w.heap.size) (hm : Mine w 0 (b :: f)) (hj : j < n) (hs : Stored w wr ((PT.rows p j).plan w b o) k) :
    ∃ g, p.ok wr b (o + j * p.size) g ∧ Mine wr 0 (b :: g) ∧ p.plan wr b (o + j * p.size) = p.plan w b (o + j * p.size) := by
  obtain ⟨m, rfl⟩ : ∃ m, n = j + (m + 1) := ⟨n - j - 1, by omega⟩
  obtain ⟨f1, f2, rfl, k1, k2⟩ := PT.rows_ok _ _ _ _ _ _ _ hok
  obtain ⟨f3, f4, rfl, k3, k4⟩ := k2
  have hn := hm.nodup
  have hn3 := nodup_left (nodup_right hn)
  have hold := p.old k3
  have hlt : ∀ a, Ter b (o + j * p.size) p.size f3 a → a.block < w.heap.size := fun a ha => by
    rcases ha with ⟨e, _⟩ | e
    · rw [e]; exact hb
    · exact hold _ e
  have hni : ∀ a, Ter b (o + j * p.size) p.size f3 a → a ∉ ((PT.rows p j).plan w b o).map Prod.fst := fun a ha hma => by
    obtain ⟨x, hx, rfl⟩ := List.mem_map.1 hma
    have h1 := (PT.rows p j).ter k1 x hx
    rw [PT.rows_size] at h1
    refine ter_apart (g := f3 ++ f4) (m := p.size) hn h1 ?_
    rcases ha with ha | ha
    · exact Or.inl ha
    · exact Or.inr (List.mem_append_left _ ha)
  have st := p.stay k3 hn3 hs.size (fun a ha _ => hs.same a (hlt a ha) (hni a ha)) (fun x hx => by
    obtain ⟨u, hu⟩ := p.cell k3 x hx
    have ht := p.ter k3 x hx
    exact ⟨u, (hs.same _ (hlt _ ht) (hni _ ht)).trans hu⟩)
  refine ⟨f3, st.1, ⟨hn3, fun _ _ => Nat.zero_le _, fun d hd i => ?_⟩, st.2⟩
  have hdw : d < w.heap.size := by
    rcases List.mem_cons.1 hd with rfl | hd
    · exact hb
    · exact hold _ hd
  rw [hs.frozen ⟨d, i, none⟩ hdw]
  refine hm.free d ?_ i
  rcases List.mem_cons.1 hd with rfl | hd
  · exact List.mem_cons_self
  · exact List.mem_cons_of_mem _ (List.mem_append_right _ (List.mem_append_left _ hd))

theorem round_close {p : PT} {w wr w2 : World} {b o n j k : Nat} {f : List Nat} {Q : List (Addr × MK)} (hok : (PT.rows p n).ok w b o f) (hm : Mine w 0 (b :: f)) (hj : j < n) (hs : Stored w wr ((PT.rows p j).plan w b o) k)
    (hq : Stored wr w2 Q (k + ((PT.rows p j).plan w b o).length)) (hQ : Q = p.plan w b (o + j * p.size)) : Stored w w2 ((PT.rows p (j + 1)).plan w b o) k := by
  subst hQ
  rw [PT.rows_snoc]
  refine hs.trans hq fun x hx hma => ?_
  obtain ⟨y, hy, e⟩ := List.mem_map.1 hma
  obtain ⟨m, rfl⟩ : ∃ m, n = j + (m + 1) := ⟨n - j - 1, by omega⟩
  obtain ⟨f1, f2, rfl, k1, k2⟩ := PT.rows_ok _ _ _ _ _ _ _ hok
  obtain ⟨f3, f4, rfl, k3, k4⟩ := k2
  have h1 := (PT.rows p j).ter k1 x hx
  rw [PT.rows_size] at h1
  have h2 := p.ter k3 y hy
  rw [e] at h2
  refine ter_apart (g := f3 ++ f4) (m := p.size) hm.nodup h1 ?_
  rcases h2 with h2 | h2
  · exact Or.inl h2
  · exact Or.inr (List.mem_append_left _ h2)

/-- Marked data are held, where nothing else has turned. -/
theorem Stored.held {p : PT} {w w' : World} {v : Value} {fp : List Nat} {k : Nat} (h : PT.okS p w v fp) (hn : fp.Nodup) (hs : Stored w w' (PT.planS p w v) k) : HeldS p w' v k (PT.planS p w v).length := by
  have hold := PT.okS_old h
  have := PT.okS_stay h hn hs.size (fun a ha hna => hs.same a (hold _ ha) hna) (fun x hx => by
    obtain ⟨i, hi, rfl⟩ := List.getElem_of_mem hx
    exact ⟨_, hs.val i hi⟩)
  exact ⟨fp, this.1, hn, by rw [this.2]; exact hs.val, by rw [this.2]⟩

/-- How a codec's data are marked; L: how many cells. -/
structure Fits {α : Type} (c : Cod α) (p : PT) (L : α → Nat) : Prop where
  size : p.size = c.size
  ok : ∀ {w : World} {b o : Nat} {x : α} {f : List Nat}, c.rd w (cellsAt w b o) x f → p.ok w b o f ∧ (p.plan w b o).length = L x

theorem fits_one {α : Type} (mk : α → Value) (ok : α → Prop) (m : MK) : Fits (Cod.one mk ok) (PT.sc m) (fun _ => 1) :=
  ⟨rfl, fun ⟨h, _, e⟩ => ⟨⟨⟨_, h⟩, e⟩, rfl⟩⟩
theorem Fits.pair {α β : Type} {a : Cod α} {b : Cod β} {p q : PT} {L : α → Nat} {M : β → Nat} (h : Fits a p L) (k : Fits b q M) : Fits (Cod.pair a b) (PT.pair p q) (fun x => L x.1 + M x.2) :=
  ⟨by show p.size + q.size = a.size + b.size; rw [h.size, k.size], fun {w b' o x f} ⟨f1, f2, e, h1, h2⟩ => by
    have k1 := h.ok h1
    have k2 := k.ok (w := w) (b := b') (o := o + p.size) (x := x.2) (f := f2) (by
      rw [h.size]
      refine b.ext (fun j _ => ?_) h2
      show w.cell? ⟨b', o + (a.size + j), none⟩ = w.cell? ⟨b', o + a.size + j, none⟩
      rw [Nat.add_assoc])
    exact ⟨⟨f1, f2, e, k1.1, k2.1⟩, by show (p.plan w b' o ++ q.plan w b' (o + p.size)).length = _; rw [List.length_append, k1.2, k2.2]⟩⟩
theorem Fits.via {α β : Type} {c : Cod α} {p : PT} {L : α → Nat} (h : Fits c p L) (g : β → α) : Fits (Cod.via c g) p (fun x => L (g x)) := ⟨h.size, fun hr => h.ok hr⟩

def sumN {α : Type} (f : α → Nat) (l : List α) : Nat := (l.map f).sum

theorem Fits.rows {α : Type} {c : Cod α} {p : PT} {L : α → Nat} (h : Fits c p L) {w : World} {b : Nat} : ∀ {o : Nat} {xs : List α} {fs : List (List Nat)}, Cod.elems c w b o xs fs → (PT.rows p xs.length).ok w b o fs.flatten ∧ ((PT.rows p xs.length).plan w b o).length = sumN L xs
  | _, [], [], _ => ⟨rfl, rfl⟩
  | o, x :: xs, f :: fs, ⟨h1, h2⟩ => by
    rw [← h.size] at h2
    have k1 := h.ok h1
    have k2 := Fits.rows h h2
    exact ⟨⟨f, fs.flatten, rfl, k1.1, k2.1⟩, by show (p.plan w b o ++ (PT.rows p xs.length).plan w b (o + p.size)).length = _; rw [List.length_append, k1.2, k2.2]; rfl⟩

theorem Fits.s {α : Type} {c : Cod α} {p : PT} {L : α → Nat} (h : Fits c p L) {w : World} {v : Value} {xs : List α} {fp : List Nat} (hr : Cod.rdS c w v xs fp) : PT.okS p w v fp ∧ (PT.planS p w v).length = sumN L xs := by
  obtain ⟨a, cap, rfl, h1, h2, h3, ⟨rfl, rfl⟩ | ⟨b, o, fs, rfl, rfl, hb, he⟩⟩ := hr
  · exact ⟨⟨a, _, cap, rfl, h1, h2, h3, Or.inl ⟨rfl, rfl⟩⟩, by rw [show ([] : List α).length = 0 from rfl, PT.planS_zero]; rfl⟩
  · have := Fits.rows h he
    exact ⟨⟨_, _, cap, rfl, h1, h2, h3, Or.inr ⟨b, o, fs.flatten, rfl, rfl, hb, this.1⟩⟩, this.2⟩
theorem Fits.slice {α : Type} {c : Cod α} {p : PT} {L : α → Nat} (h : Fits c p L) : Fits (Cod.slice c) (PT.arr p) (sumN L) :=
  ⟨rfl, fun {w b o x f} ⟨v, hv, hr⟩ => by
    have := Fits.s h hr
    have hv' : w.cell? ⟨b, o, none⟩ = some v := hv
    exact ⟨⟨v, hv', this.1⟩, by rw [PT.arr_plan hv']; exact this.2⟩⟩

end Go.Proofs.YtpiheobpobclgaaGreatDoor


/- Keys and values: which bytes they hold. -/
namespace Go.Proofs.YtpiheobpobclgaaGreatDoor
open Go.RowKit

/-- A lower letter or a digit. -/
def lowB (c : UInt8) : Bool := (decide (97 ≤ (c.toNat : Int)) && decide ((c.toNat : Int) ≤ 122)) || (decide (48 ≤ (c.toNat : Int)) && decide ((c.toNat : Int) ≤ 57))
/-- All bytes are such or among some others. -/
def hasL (l others : List UInt8) : Bool := l.all fun c => lowB c || others.contains c
theorem hasL_snoc (l others : List UInt8) (c : UInt8) : hasL (l ++ [c]) others = (hasL l others && (lowB c || others.contains c)) := by simp [hasL]

theorem hasL_take_false {l others : List UInt8} {k : Nat} (h : hasL (l.take k) others = false) : hasL l others = false := by
  rw [Bool.eq_false_iff]
  intro ht
  have : hasL (l.take k) others = true := List.all_eq_true.2 fun x hx => List.all_eq_true.1 ht x (List.mem_of_mem_take hx)
  rw [h] at this
  cases this
theorem indexByte_neg (l : List UInt8) (c : UInt8) : decide (Lib.indexByte l c < 0) = !l.contains c := by
  have hge := Lib.indexByte_ge l c
  by_cases h : Lib.indexByte l c = -1
  · have hn := Lib.indexByte_none h
    have hc : l.contains c = false := by
      rw [Bool.eq_false_iff]
      intro hc
      obtain ⟨k, hk, e⟩ := List.getElem_of_mem (by simpa using hc : c ∈ l)
      exact hn k (by rw [List.getElem?_eq_getElem hk, e])
    rw [h, hc]; rfl
  · obtain ⟨o, ho⟩ := Int.eq_ofNat_of_zero_le (show 0 ≤ Lib.indexByte l c by omega)
    have hs := (Lib.indexByte_some ho).1
    have hc : l.contains c = true := by
      have := List.mem_of_getElem? hs
      simpa using this
    rw [ho, hc]
    simp

/-- impl.isLowerOrDigit -/
theorem isLower_any (c : UInt8) (w : World) : Calls Tryz.prog 81 #[.int .u8 (c.toNat : Int)] w fun e w' => e = .returned (.bool (lowB c)) ∧ w = w' := by
  unfold lowB
  generalize (c.toNat : Int) = n
  by_cases h1 : 97 ≤ n <;> by_cases h2 : n ≤ 122 <;> by_cases h3 : 48 ≤ n <;> by_cases h4 : n ≤ 57 <;>
    first | (exfalso; omega) | (go_enter Tryz.func81, Tryz.ntmps81; go_wp2; go_ret; exact ⟨by simp [h1, h2, h3, h4], rfl⟩)

theorem idxByteStr (s : ByteArray) (c : Int) (w : World) : (callFunc 87 #[.string s, .int .u8 c]).run Tryz.prog w = .ok (.value (.int .i64 (Lib.indexByte s.data.toList c.toNat.toUInt8))) w := by
  rw [run_callFunc_extern Tryz.func87 (by kernel_rfl) (by kernel_rfl) (by kernel_rfl) (e := Extern.BytealgIndexByte.indexByte) (by kernel_rfl), Lib.run_indexByteString]
  rfl

/-- strings.IndexByte -/
theorem indexByte_any (s : ByteArray) (c : Int) (w : World) : Calls Tryz.prog 82 #[.string s, .int .u8 c] w fun e w' => e = .returned (.int .i64 (Lib.indexByte s.data.toList c.toNat.toUInt8)) ∧ w = w' := by
  have h := idxByteStr s c
  go_enter Tryz.func82, Tryz.ntmps82
  go_wp2
  go_ret
  exact ⟨rfl, rfl⟩

/-- impl.hasBytes -/
theorem hasBytes_any (s others : ByteArray) (hs : s.size ≤ maxLen) (w : World) : Calls Tryz.prog 67 #[.string s, .string others] w fun e w' => e = .returned (.bool (hasL s.data.toList others.data.toList)) ∧ w = w' := by
  unfold maxLen at hs
  go_enter Tryz.func67, Tryz.ntmps67
  go_wp2
  go_loop [5, 8] (fun _ i => ∃ k : Nat, k ≤ s.size ∧ i = .int .i64 k ∧ Hid (hasL (s.data.toList.take k) others.data.toList = true)) (fun _ i => s.size - (intOf i).toNat)
  case atStart => exact ⟨0, Nat.zero_le _, rfl, rfl⟩
  case round =>
    obtain ⟨k, hk, rfl, hh⟩ := hrel
    by_cases hlt : k < s.size
    · have hsn := hasL_snoc (s.data.toList.take k) others.data.toList s[k]
      rw [← take_snoc s k hlt, hh.out, Bool.true_and] at hsn
      have hcb : (s[k].toNat : Int) ≤ 255 := by have := s[k].toNat_lt; omega
      have Hi := Lib.hid (isLower_any s[k])
      have Hj := Lib.hid (indexByte_any others (s[k].toNat : Int))
      have hneg := indexByte_neg others.data.toList s[k]
      have hb : ((s[k].toNat : Int)).toNat.toUInt8 = s[k] := by simp
      rw [hb] at Hj
      clear hb
      generalize Lib.indexByte others.data.toList s[k] = ib at *
      generalize hlo : lowB s[k] = lo at *
      clear hlo
      cases lo
      · cases hc : others.data.toList.contains s[k]
        · rw [hc] at hneg hsn
          have hib : ib < 0 := by simpa using hneg
          have Hsn := Lib.hid hsn
          clear hsn hneg hc
          go_wp2_with (first | (go_at_call 81; refine (Hi.out _).mono ?_; rintro e w1 ⟨rfl, rfl⟩) | (go_at_call 82; refine (Hj.out _).mono ?_; rintro e w1 ⟨rfl, rfl⟩))
          go_ret
          exact ⟨ret_bool (hasL_take_false (k := k + 1) (by have := Hsn.out; simpa using this)).symm, rfl⟩
        · rw [hc] at hneg hsn
          have hib : ¬ ib < 0 := by simpa using hneg
          have Hsn := Lib.hid hsn
          clear hsn hneg hc
          go_wp2_with (first | (go_at_call 81; refine (Hi.out _).mono ?_; rintro e w1 ⟨rfl, rfl⟩) | (go_at_call 82; refine (Hj.out _).mono ?_; rintro e w1 ⟨rfl, rfl⟩))
          go_round
          case rel => exact ⟨k + 1, by omega, by go_num, Lib.hid (by have := Hsn.out; simpa using this)⟩
          case measure => simp [intOf]; omega
      · have Hsn := Lib.hid hsn
        clear hsn hneg
        go_wp2_with (go_at_call 81; refine (Hi.out _).mono ?_; rintro e w1 ⟨rfl, rfl⟩)
        go_round
        case rel => exact ⟨k + 1, by omega, by go_num, Lib.hid (by have := Hsn.out; simpa using this)⟩
        case measure => simp [intOf]; omega
    · go_wp2
      go_ret
      exact ⟨ret_bool (by have := hh.out; rw [List.take_of_length_le (by simp; omega)] at this; exact this.symm), rfl⟩

theorem contains_snoc (l : List UInt8) (x c : UInt8) : (l ++ [x]).contains c = (l.contains c || ((c.toNat : Int) == (x.toNat : Int))) := by
  rw [Bool.eq_iff_iff]
  simp only [List.contains_iff_mem, List.mem_append, List.mem_singleton, Bool.or_eq_true, beq_iff_eq]
  constructor
  · rintro (h | rfl)
    · exact Or.inl h
    · exact Or.inr rfl
  · rintro (h | h)
    · exact Or.inl h
    · exact Or.inr (UInt8.toNat_inj.1 (by omega))

/-- spec.l3Bytes -/
theorem l3Bytes_any (s others : ByteArray) (hs : s.size ≤ maxLen) (ho : others.size ≤ maxLen) (w : World) : Calls Tryz.prog 58 #[.string s, .string others] w fun e w' => e = .returned (.bool (hasL s.data.toList others.data.toList)) ∧ Below w.heap.size w w' := by
  unfold maxLen at hs ho
  go_enter Tryz.func58, Tryz.ntmps58
  go_wp2
  go_loopw [5, 6, 7] (fun i _ _ wr => ∃ k : Nat, k ≤ s.size ∧ i = .int .i64 k ∧ Hid (hasL (s.data.toList.take k) others.data.toList = true) ∧ ∃ n, wr = w.drewN n) (fun i _ _ _ => s.size - (intOf i).toNat)
  case atStart => exact ⟨0, Nat.zero_le _, rfl, rfl, 0, rfl⟩
  case round =>
    obtain ⟨k, hk, rfl, hh, n, rfl⟩ := hrel
    by_cases hlt : k < s.size
    · have hsn := hasL_snoc (s.data.toList.take k) others.data.toList s[k]
      rw [← take_snoc s k hlt, hh.out, Bool.true_and] at hsn
      obtain ⟨c, hc⟩ : ∃ c, s[k] = c := ⟨_, rfl⟩
      rw [hc] at hsn
      have hcb : (c.toNat : Int) ≤ 255 := by have := c.toNat_lt; omega
      have Hsn := Lib.hid hsn
      clear hsn
      have low1 : ∀ n : Int, n = (c.toNat : Int) → ((97 ≤ n ∧ n ≤ 122) ∨ (48 ≤ n ∧ n ≤ 57)) → Hid (lowB c = true) := fun n hn h => Lib.hid (by subst hn; simp [lowB]; omega)
      have low0 : ∀ n : Int, n = (c.toNat : Int) → ((122 < n) ∨ (57 < n ∧ n < 97) ∨ n < 48) → Hid (lowB c = false) := fun n hn h => Lib.hid (by subst hn; simp [lowB]; omega)
      have hcases : ∃ b : Bool, Hid (lowB c = b) ∧ (((97 ≤ (c.toNat : Int) ∧ (c.toNat : Int) ≤ 122) ∧ b = true) ∨ ((122 < (c.toNat : Int)) ∧ b = false) ∨ ((48 ≤ (c.toNat : Int) ∧ (c.toNat : Int) ≤ 57) ∧ b = true) ∨ ((57 < (c.toNat : Int) ∧ (c.toNat : Int) < 97) ∧ b = false) ∨ ((c.toNat : Int) < 48) ∧ b = false) := by
        by_cases h1 : 97 ≤ (c.toNat : Int) ∧ (c.toNat : Int) ≤ 122
        · exact ⟨true, low1 _ rfl (Or.inl h1), Or.inl ⟨h1, rfl⟩⟩
        · by_cases h2 : 48 ≤ (c.toNat : Int) ∧ (c.toNat : Int) ≤ 57
          · exact ⟨true, low1 _ rfl (Or.inr h2), Or.inr (Or.inr (Or.inl ⟨h2, rfl⟩))⟩
          · refine ⟨false, low0 _ rfl (by omega), ?_⟩
            by_cases h3 : 122 < (c.toNat : Int)
            · exact Or.inr (Or.inl ⟨h3, rfl⟩)
            · by_cases h4 : (c.toNat : Int) < 48
              · exact Or.inr (Or.inr (Or.inr (Or.inr ⟨h4, rfl⟩)))
              · exact Or.inr (Or.inr (Or.inr (Or.inl ⟨by omega, rfl⟩)))
      clear low1 low0
      obtain ⟨b, Hb, hcases⟩ := hcases
      rcases hcases with ⟨g, rfl⟩ | ⟨g, rfl⟩ | ⟨g, rfl⟩ | ⟨g, rfl⟩ | ⟨g, rfl⟩
      all_goals
        go_wp2
        go_loopw [6, 7] (fun q j wr => ∃ (m : Nat) (q0 : Bool), m ≤ others.size ∧ j = .int .i64 m ∧ q = .bool q0 ∧ Hid (q0 = (lowB c || (others.data.toList.take m).contains c)) ∧ ∃ n, wr = w.drewN n) (fun _ j _ => others.size - (intOf j).toNat)
        case atStart => exact ⟨0, _, Nat.zero_le _, rfl, rfl, Lib.hid (by rw [Hb.out]; first | rfl | (simp; omega)), n, rfl⟩
        case round =>
          obtain ⟨m, q0, hm, rfl, rfl, Hq, n', rfl⟩ := hrel
          by_cases hmt : m < others.size
          · have hsn := contains_snoc (others.data.toList.take m) others[m] c
            rw [← take_snoc others m hmt] at hsn
            have hcb2 : (others[m].toNat : Int) ≤ 255 := by have := others[m].toNat_lt; omega
            have Hsn2 := Lib.hid hsn
            clear hsn
            cases q0
            · go_wp2
              go_quiet (fail)
              go_wp2
              go_roundw
              case rel => exact ⟨m + 1, _, by omega, by go_num, rfl, Lib.hid (by rw [Hsn2.out, ← Bool.or_assoc, ← Hq.out, Bool.false_or]), _, rfl⟩
              case measure => simp [intOf]; omega
            · go_wp2
              go_quiet (fail)
              go_wp2
              go_roundw
              case rel => exact ⟨m + 1, _, by omega, by go_num, rfl, Lib.hid (by rw [Hsn2.out, ← Bool.or_assoc, ← Hq.out, Bool.true_or]), _, rfl⟩
              case measure => simp [intOf]; omega
          · have hm2 : others.data.toList.take m = others.data.toList := List.take_of_length_le (by simp; omega)
            have Hsn3 : Hid (hasL (s.data.toList.take (k + 1)) others.data.toList = q0) := Lib.hid (by rw [Hsn.out, Hq.out, hm2])
            clear hm2
            cases q0
            · go_wp2
              go_ret
              exact ⟨ret_bool (hasL_take_false (k := k + 1) Hsn3.out).symm, below_drewN (Below.refl _ _) _⟩
            · go_wp2
              go_roundw
              case rel => exact ⟨k + 1, by omega, by go_num, Hsn3, _, rfl⟩
              case measure => simp [intOf]; omega
    · go_wp2
      go_ret
      exact ⟨ret_bool (by have := hh.out; rw [List.take_of_length_le (by simp; omega)] at this; exact this.symm), below_drewN (Below.refl _ _) _⟩

end Go.Proofs.YtpiheobpobclgaaGreatDoor


/- Keys and values: the functions above. -/
namespace Go.Proofs.YtpiheobpobclgaaGreatDoor
open Go.RowKit

def keyB (s : ByteArray) : Bool := inB s.size 1 12 && hasL s.data.toList [46, 47]
def valB (s : ByteArray) : Bool := decide (s.size ≤ 24) && hasL s.data.toList [46, 45, 44, 95]

/-- impl.GoodKey -/
theorem goodKey_any (s : ByteArray) (hs : s.size ≤ maxLen) (w : World) : Calls Tryz.prog 52 #[.string s] w fun e w' => e = .returned (.bool (keyB s)) ∧ w = w' := by
  have Hc := Lib.hid (within_any (s.size : Int) 1 12)
  have Hd := Lib.hid (hasBytes_any s ⟨#[46, 47]⟩ hs)
  unfold keyB
  unfold maxLen at hs
  generalize inB (s.size : Int) 1 12 = p at *
  have he : hasL s.data.toList (⟨#[46, 47]⟩ : ByteArray).data.toList = hasL s.data.toList [46, 47] := rfl
  rw [he] at Hd
  clear he
  generalize hasL s.data.toList [46, 47] = q at *
  cases p
  all_goals
    go_enter Tryz.func52, Tryz.ntmps52
    go_wp2_with (first | (go_at_call 38; refine (Hc.out _).mono ?_; rintro e w1 ⟨rfl, rfl⟩) | (go_at_call 67; refine (Hd.out _).mono ?_; rintro e w1 ⟨rfl, rfl⟩))
    go_ret
    exact ⟨rfl, rfl⟩

/-- impl.GoodVal -/
theorem goodVal_any (s : ByteArray) (hs : s.size ≤ maxLen) (w : World) : Calls Tryz.prog 69 #[.string s] w fun e w' => e = .returned (.bool (valB s)) ∧ w = w' := by
  have Hd := Lib.hid (hasBytes_any s ⟨#[46, 45, 44, 95]⟩ hs)
  unfold valB
  unfold maxLen at hs
  have he : hasL s.data.toList (⟨#[46, 45, 44, 95]⟩ : ByteArray).data.toList = hasL s.data.toList [46, 45, 44, 95] := rfl
  rw [he] at Hd
  clear he
  generalize hasL s.data.toList [46, 45, 44, 95] = q at *
  by_cases hq : s.size ≤ 24
  all_goals
    go_enter Tryz.func69, Tryz.ntmps69
    go_wp2_with (go_at_call 67; refine (Hd.out _).mono ?_; rintro e w1 ⟨rfl, rfl⟩)
    go_ret
    exact ⟨ret_bool (by simp [hq]), rfl⟩

/-- spec.l3Key -/
theorem l3Key_any (s : ByteArray) (hs : s.size ≤ maxLen) (w : World) : Calls Tryz.prog 44 #[.string s] w fun e w' => e = .returned (.bool (keyB s)) ∧ Below w.heap.size w w' := by
  have Hc := Lib.hid (l1In_any (s.size : Int) 1 12)
  have Hd := Lib.hid (l3Bytes_any s ⟨#[46, 47]⟩ hs (by unfold maxLen; decide))
  unfold keyB
  unfold maxLen at hs
  generalize inB (s.size : Int) 1 12 = p at *
  have he : hasL s.data.toList (⟨#[46, 47]⟩ : ByteArray).data.toList = hasL s.data.toList [46, 47] := rfl
  rw [he] at Hd
  clear he
  generalize hasL s.data.toList [46, 47] = q at *
  cases p
  · go_enter Tryz.func44, Tryz.ntmps44
    go_wp2_with (go_at_call 27; refine (Hc.out _).mono ?_; rintro e w1 ⟨rfl, rfl⟩)
    go_ret
    exact ⟨rfl, Below.refl _ _⟩
  · go_enter Tryz.func44, Tryz.ntmps44
    go_wp2_with (first | (go_at_call 27; refine (Hc.out _).mono ?_; rintro e w1 ⟨rfl, rfl⟩) | (go_at_call 58; refine (Hd.out _).mono ?_; rintro e w1 ⟨rfl, hb⟩))
    go_ret
    exact ⟨rfl, hb⟩

/-- spec.l3Val -/
theorem l3Val_any (s : ByteArray) (hs : s.size ≤ maxLen) (w : World) : Calls Tryz.prog 59 #[.string s] w fun e w' => e = .returned (.bool (valB s)) ∧ Below w.heap.size w w' := by
  have Hd := Lib.hid (l3Bytes_any s ⟨#[46, 45, 44, 95]⟩ hs (by unfold maxLen; decide))
  unfold valB
  unfold maxLen at hs
  have he : hasL s.data.toList (⟨#[46, 45, 44, 95]⟩ : ByteArray).data.toList = hasL s.data.toList [46, 45, 44, 95] := rfl
  rw [he] at Hd
  clear he
  generalize hasL s.data.toList [46, 45, 44, 95] = q at *
  by_cases hq : s.size ≤ 24
  · go_enter Tryz.func59, Tryz.ntmps59
    go_wp2_with (go_at_call 58; refine (Hd.out _).mono ?_; rintro e w1 ⟨rfl, hb⟩)
    go_ret
    exact ⟨ret_bool (by simp [hq]), hb⟩
  · go_enter Tryz.func59, Tryz.ntmps59
    go_wp2
    go_ret
    exact ⟨ret_bool (by simp [hq]), Below.refl _ _⟩

end Go.Proofs.YtpiheobpobclgaaGreatDoor


/- The order of strings; truth of a sentence as a Bool. Plain lemmas; no program. -/
namespace Go.Proofs.YtpiheobpobclgaaGreatDoor
open Go.RowKit

theorem nilOf {y : ByteArray} (h : y.size = 0) : y = ⟨#[]⟩ := by
  apply str_eq_iff.1
  rw [ByteArray.toList_eq, ByteArray.toList_eq]
  have h2 : y.data.toList.length = 0 := by rw [Array.length_toList]; exact h
  rw [List.eq_nil_of_length_eq_zero h2]
theorem someOf {y : ByteArray} (h : ¬ y.size = 0) : y.toList.isEmpty = false := by
  rw [ByteArray.toList_eq]
  cases hl : y.data.toList with
  | nil => exact absurd (by have h2 := congrArg List.length hl; rw [Array.length_toList] at h2; exact h2) h
  | cons a l => rfl

/-- Whether p holds. -/
noncomputable def pB (p : Prop) : Bool := @decide p (Classical.propDecidable p)
theorem pB_true {p : Prop} (h : p) : pB p = true := @decide_eq_true p (Classical.propDecidable p) h
theorem pB_false {p : Prop} (h : ¬ p) : pB p = false := @decide_eq_false p (Classical.propDecidable p) h
theorem pB_iff {p : Prop} : pB p = true ↔ p := @decide_eq_true_iff p (Classical.propDecidable p)
theorem pB_eq {p : Prop} {b : Bool} (h : p ↔ b = true) : pB p = b := by
  cases b
  · exact pB_false fun k => by cases h.1 k
  · exact pB_true (h.2 rfl)
theorem pB_congr {p q : Prop} (h : p ↔ q) : pB p = pB q := by rw [propext h]

/-- Whether one string lies before another. -/
def ltB (a b : ByteArray) : Bool := Op.bytesLess a.toList b.toList

theorem byte_tri (a b : UInt8) : a < b ∨ b < a ∨ a = b := by
  rcases Nat.lt_trichotomy a.toNat b.toNat with h | h | h
  · exact Or.inl (UInt8.lt_iff_toNat_lt.2 h)
  · exact Or.inr (Or.inr (UInt8.toNat_inj.1 h))
  · exact Or.inr (Or.inl (UInt8.lt_iff_toNat_lt.2 h))

theorem less_tri : ∀ (a b : List UInt8), (Op.bytesLess a b || a == b) = !Op.bytesLess b a
  | [], [] => rfl
  | [], _ :: _ => rfl
  | _ :: _, [] => rfl
  | a :: x, b :: y => by
    have ih := less_tri x y
    unfold Op.bytesLess
    rcases byte_tri a b with h | h | h
    · have h2 : ¬ b < a := fun h' => absurd (UInt8.lt_trans h h') (UInt8.lt_irrefl _)
      have h3 : (b == a) = false := by simp; exact fun e => UInt8.lt_irrefl _ (e ▸ h)
      simp [h, h2, h3]
    · have h2 : ¬ a < b := fun h' => absurd (UInt8.lt_trans h h') (UInt8.lt_irrefl _)
      have h3 : (a == b) = false := by simp; exact fun e => UInt8.lt_irrefl _ (e ▸ h)
      have h4 : (a :: x == b :: y) = false := by simp; exact fun e => absurd e (by simpa using h3)
      simp [h, h2, h3, h4]
    · subst h
      have h2 : ¬ a < a := UInt8.lt_irrefl _
      simp only [h2, decide_false, beq_self_eq_true, Bool.true_and, Bool.false_or]
      rw [← ih]
      simp

theorem leB_eq (a b : ByteArray) : (Op.bytesLess a.toList b.toList || a.toList == b.toList) = !ltB b a := less_tri _ _

theorem less_irrefl : ∀ (a : List UInt8), Op.bytesLess a a = false
  | [] => rfl
  | a :: x => by
    unfold Op.bytesLess
    simp [UInt8.lt_irrefl, less_irrefl x]
theorem ltB_irrefl (a : ByteArray) : ltB a a = false := less_irrefl _
theorem less_trans : ∀ (a b c : List UInt8), Op.bytesLess a b = true → Op.bytesLess b c = true → Op.bytesLess a c = true
  | [], [], _, h, _ => by cases h
  | [], _ :: _, [], _, k => by cases k
  | [], _ :: _, _ :: _, _, _ => rfl
  | _ :: _, [], _, h, _ => by cases h
  | _ :: _, _ :: _, [], _, k => by cases k
  | a :: x, b :: y, c :: z, h, k => by
    unfold Op.bytesLess at h k ⊢
    simp only [Bool.or_eq_true, decide_eq_true_eq, Bool.and_eq_true, beq_iff_eq] at h k ⊢
    rcases h with h | ⟨rfl, h⟩
    · rcases k with k | ⟨rfl, k⟩
      · exact Or.inl (UInt8.lt_trans h k)
      · exact Or.inl h
    · rcases k with k | ⟨rfl, k⟩
      · exact Or.inl k
      · exact Or.inr ⟨rfl, less_trans x y z h k⟩
theorem ltB_trans {a b c : ByteArray} (h : ltB a b = true) (k : ltB b c = true) : ltB a c = true := less_trans _ _ _ h k

end Go.Proofs.YtpiheobpobclgaaGreatDoor


/- MoveSpan: walked. -/
namespace Go.Proofs.YtpiheobpobclgaaGreatDoor
open Go.RowKit

def pickI : Bool → Int → Int
  | true, x => x
  | false, _ => 0
@[simp] theorem pickI_true (x : Int) : pickI true x = x := rfl
@[simp] theorem pickI_false (x : Int) : pickI false x = 0 := rfl

def moveQ (lo hi n : Int) : Bool := (spanB lo hi && inB n 0 100000) && spanB (lo + n) (hi + n)

theorem spanB_iff {lo hi : Int} : spanB lo hi = true ↔ lo ≤ hi ∧ -10 ≤ lo ∧ hi ≤ 100010 := by simp [spanB]; omega

end Go.Proofs.YtpiheobpobclgaaGreatDoor

