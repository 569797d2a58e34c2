/- How Go data lie in memory: a reading of cells as Lean data, with the blocks that it goes through. Plain lemmas; no program. -/
import Derived.Test.YtekgackednpdgaaExt
namespace Go.Proofs.Ytekgackednpdgaa
open Go.RowKit

/-- How data of one type lie in cells: 'rd w g x fp': in the world w the cells g 0 .. g (size - 1) hold x; fp: the blocks that the reading goes through. -/
structure Cod (α : Type) where
  size : Nat
  rd : World → (Nat → Option Value) → α → List Nat → Prop
  ext : ∀ {w : World} {g g' : Nat → Option Value} {x : α} {fp : List Nat}, (∀ j, j < size → g j = g' j) → rd w g x fp → rd w g' x fp
  frame : ∀ {w w' : World} {g : Nat → Option Value} {x : α} {fp : List Nat}, (∀ b ∈ fp, w'.heap[b]? = w.heap[b]?) → rd w g x fp → rd w' g x fp
  old : ∀ {w : World} {g : Nat → Option Value} {x : α} {fp : List Nat}, rd w g x fp → ∀ b ∈ fp, b < w.heap.size

namespace Cod

/-- A type of one cell that leads nowhere. -/
def one {α : Type} (mk : α → Value) (ok : α → Prop) : Cod α where
  size := 1
  rd _ g x fp := g 0 = some (mk x) ∧ ok x ∧ fp = []
  ext h := fun ⟨a, b, c⟩ => ⟨(h 0 (Nat.lt_succ_self 0)) ▸ a, b, c⟩
  frame _ h := h
  old := fun ⟨_, _, c⟩ b hb => by rw [c] at hb; cases hb

/-- Two, one behind the other. -/
def pair {α β : Type} (a : Cod α) (b : Cod β) : Cod (α × β) where
  size := a.size + b.size
  rd w g x fp := ∃ f1 f2, fp = f1 ++ f2 ∧ a.rd w g x.1 f1 ∧ b.rd w (fun j => g (a.size + j)) x.2 f2
  ext h := fun ⟨f1, f2, e, h1, h2⟩ => ⟨f1, f2, e, a.ext (fun j hj => h j (by omega)) h1, b.ext (fun j hj => h _ (by omega)) h2⟩
  frame h := fun ⟨f1, f2, e, h1, h2⟩ => ⟨f1, f2, e, a.frame (fun b hb => h b (by rw [e]; exact List.mem_append_left _ hb)) h1, b.frame (fun b hb => h b (by rw [e]; exact List.mem_append_right _ hb)) h2⟩
  old := fun ⟨f1, f2, e, h1, h2⟩ k hk => by
    rw [e, List.mem_append] at hk
    rcases hk with hk | hk
    · exact a.old h1 k hk
    · exact b.old h2 k hk

/-- The same cells under another name. -/
def via {α β : Type} (c : Cod α) (f : β → α) : Cod β where
  size := c.size
  rd w g y fp := c.rd w g (f y) fp
  ext := c.ext
  frame := c.frame
  old := c.old

/-- The getter at an address. -/
def _root_.Go.Proofs.Ytekgackednpdgaa.cellsAt (w : World) (b off : Nat) : Nat → Option Value := fun j => w.cell? ⟨b, off + j, none⟩

theorem cellsAt_of_block {w w' : World} {b : Nat} (h : w'.heap[b]? = w.heap[b]?) (off : Nat) : cellsAt w' b off = cellsAt w b off :=
  funext fun _ => World.cell?_of_block (w := w) h

/-- The elements of a row. -/
def elems {α : Type} (c : Cod α) (w : World) (b : Nat) : Nat → List α → List (List Nat) → Prop
  | _, [], [] => True
  | off, x :: xs, f :: fs => c.rd w (cellsAt w b off) x f ∧ elems c w b (off + c.size) xs fs
  | _, _, _ => False

/-- What a slice value reads as. -/
def rdS {α : Type} (c : Cod α) (w : World) (v : Value) (xs : List α) (fp : List Nat) : Prop :=
  ∃ a cap, v = .slice a xs.length cap ∧ xs.length ≤ cap ∧ cap ≤ maxLen ∧ (a = none → cap = 0) ∧
    ((xs = [] ∧ fp = []) ∨ ∃ b off fs, a = some ⟨b, off, none⟩ ∧ fp = b :: fs.flatten ∧ b < w.heap.size ∧ elems c w b off xs fs)

theorem elems_frame {α : Type} (c : Cod α) {w w' : World} {b : Nat} (hb : w'.heap[b]? = w.heap[b]?) : ∀ {off : Nat} {xs : List α} {fs : List (List Nat)}, (∀ k ∈ fs.flatten, w'.heap[k]? = w.heap[k]?) →
    elems c w b off xs fs → elems c w' b off xs fs
  | _, [], [], _, h => h
  | _, [], _ :: _, _, h => h
  | _, _ :: _, [], _, h => h
  | off, x :: xs, f :: fs, hf, ⟨h1, h2⟩ => by
    refine ⟨?_, elems_frame c hb (fun k hk => hf k (by simp only [List.flatten_cons, List.mem_append]; exact Or.inr hk)) h2⟩
    rw [cellsAt_of_block hb]
    exact c.frame (fun k hk => hf k (by simp only [List.flatten_cons, List.mem_append]; exact Or.inl hk)) h1

theorem elems_old {α : Type} (c : Cod α) {w : World} {b : Nat} : ∀ {off : Nat} {xs : List α} {fs : List (List Nat)}, elems c w b off xs fs → ∀ k ∈ fs.flatten, k < w.heap.size
  | _, [], [], _, k, hk => by cases hk
  | _, x :: xs, f :: fs, ⟨h1, h2⟩, k, hk => by
    simp only [List.flatten_cons, List.mem_append] at hk
    rcases hk with hk | hk
    · exact c.old h1 k hk
    · exact elems_old c h2 k hk

theorem elems_length {α : Type} (c : Cod α) {w : World} {b : Nat} : ∀ {off : Nat} {xs : List α} {fs : List (List Nat)}, elems c w b off xs fs → fs.length = xs.length
  | _, [], [], _ => rfl
  | _, x :: xs, f :: fs, ⟨_, h2⟩ => by simp [elems_length c h2]

theorem rdS_frame {α : Type} (c : Cod α) {w w' : World} {v : Value} {xs : List α} {fp : List Nat} (hf : ∀ k ∈ fp, w'.heap[k]? = w.heap[k]?) (h : rdS c w v xs fp) : rdS c w' v xs fp := by
  obtain ⟨a, cap, hv, h1, h2, h3, h4⟩ := h
  refine ⟨a, cap, hv, h1, h2, h3, ?_⟩
  rcases h4 with h4 | ⟨b, off, fs, ha, hfp, hb, he⟩
  · exact Or.inl h4
  · subst hfp
    have hbb := hf b List.mem_cons_self
    refine Or.inr ⟨b, off, fs, ha, rfl, ?_, elems_frame c hbb (fun k hk => hf k (List.mem_cons_of_mem _ hk)) he⟩
    have : w.heap[b]?.isSome := by simp [hb]
    rw [← hbb] at this
    simpa using this

theorem rdS_old {α : Type} (c : Cod α) {w : World} {v : Value} {xs : List α} {fp : List Nat} (h : rdS c w v xs fp) : ∀ k ∈ fp, k < w.heap.size := by
  obtain ⟨a, cap, hv, h1, h2, h3, h4⟩ := h
  rcases h4 with ⟨_, rfl⟩ | ⟨b, off, fs, ha, rfl, hb, he⟩
  · intro k hk; cases hk
  · intro k hk
    rcases List.mem_cons.1 hk with rfl | hk
    · exact hb
    · exact elems_old c he k hk

/-- A slice: one cell. -/
def slice {α : Type} (c : Cod α) : Cod (List α) where
  size := 1
  rd w g xs fp := ∃ v, g 0 = some v ∧ rdS c w v xs fp
  ext h := fun ⟨v, a, b⟩ => ⟨v, (h 0 (Nat.lt_succ_self 0)) ▸ a, b⟩
  frame hf := fun ⟨v, a, b⟩ => ⟨v, a, rdS_frame c hf b⟩
  old := fun ⟨_, _, b⟩ => rdS_old c b

/-- Element k of a row. -/
theorem elems_at {α : Type} (c : Cod α) {w : World} {b : Nat} : ∀ {off : Nat} {xs : List α} {fs : List (List Nat)}, elems c w b off xs fs → ∀ (k : Nat) (hk : k < xs.length), ∃ f, fs[k]? = some f ∧ c.rd w (cellsAt w b (off + k * c.size)) xs[k] f
  | _, x :: xs, f :: fs, ⟨h1, _⟩, 0, _ => ⟨f, rfl, by simpa using h1⟩
  | off, x :: xs, f :: fs, ⟨_, h2⟩, k + 1, hk => by
    obtain ⟨f', h, h'⟩ := elems_at c h2 k (by simpa using hk)
    refine ⟨f', by simpa using h, ?_⟩
    have e : off + c.size + k * c.size = off + (k + 1) * c.size := by rw [Nat.add_mul]; omega
    rw [e] at h'
    simpa using h'

/-- A row is what its elements are. -/
theorem elems_of {α : Type} (c : Cod α) {w : World} {b : Nat} : ∀ {off : Nat} {xs : List α} {fs : List (List Nat)}, fs.length = xs.length →
    (∀ (k : Nat) (hk : k < xs.length) (f : List Nat), fs[k]? = some f → c.rd w (cellsAt w b (off + k * c.size)) xs[k] f) → elems c w b off xs fs
  | _, [], [], _, _ => trivial
  | _, [], _ :: _, h, _ => by cases h
  | _, _ :: _, [], h, _ => by cases h
  | off, x :: xs, f :: fs, hl, h => by
    refine ⟨by have := h 0 (by simp) f rfl; simpa only [Nat.zero_mul, Nat.add_zero, List.getElem_cons_zero] using this, elems_of c (by simpa using hl) fun k hk f' hf => ?_⟩
    have := h (k + 1) (by simpa using hk) f' (by simpa using hf)
    have e : off + c.size + k * c.size = off + (k + 1) * c.size := by rw [Nat.add_mul]; omega
    rw [e]
    simpa using this

def int : Cod Int := one (fun x => .int .i64 x) (fun x => -9223372036854775808 ≤ x ∧ x ≤ 9223372036854775807)
def bool : Cod Bool := one (fun b => .bool b) (fun _ => True)
def str : Cod ByteArray := one (fun s => .string s) (fun s => s.size ≤ maxLen)

end Cod
end Go.Proofs.Ytekgackednpdgaa
