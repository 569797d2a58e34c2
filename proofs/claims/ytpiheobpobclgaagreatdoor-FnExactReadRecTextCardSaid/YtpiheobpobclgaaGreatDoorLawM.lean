/- What a law keeps while it marks: data that lie between two bounds. Plain lemmas; no program. -/
import Derived.Test.YtpiheobpobclgaaGreatDoorPlanT
namespace Go.Proofs.YtpiheobpobclgaaGreatDoor
open Go.RowKit

/-- Nothing that was there has turned but in the blocks from lo on, below hi. -/
structure Turn (lo hi : Nat) (w w' : World) : Prop where
  os : w'.os = w.os
  tape : w'.tape = w.tape
  output : w'.output = w.output
  size : w.heap.size ≤ w'.heap.size
  block : ∀ b, b < w.heap.size → (b < lo ∨ hi ≤ b) → w'.heap[b]? = w.heap[b]?

theorem Turn.below {lo hi : Nat} {w0 w w' : World} (h : Turn lo hi w w') (hN : w0.heap.size ≤ lo) (hb : Below w0.heap.size w0 w) : Below w0.heap.size w0 w' :=
  ⟨h.os.trans hb.os, h.tape.trans hb.tape, h.output.trans hb.output, Nat.le_trans hb.size h.size, fun k hk => (h.block k (Nat.lt_of_lt_of_le hk hb.size) (Or.inl (by omega))).trans (hb.block k hk)⟩

theorem Turn.cell {lo hi : Nat} {w w' : World} {b o : Nat} {v : Value} (t : Turn lo hi w w') (h : w.cell? ⟨b, o, none⟩ = some v) (hb : b < lo ∨ hi ≤ b) : w'.cell? ⟨b, o, none⟩ = some v :=
  (World.cell?_of_block (w := w) (t.block b (World.block_lt_of_cell? _ _ h) hb)).trans h

section
variable {α : Type} {c : Cod α} {w w' : World} {lo hi : Nat} {v : Value} {xs : List α}

/-- A slice that reads as xs, by blocks from lo on, below hi. -/
def In (c : Cod α) (w : World) (lo hi : Nat) (v : Value) (xs : List α) : Prop := ∃ fp, Cod.rdS c w v xs fp ∧ ∀ d ∈ fp, lo ≤ d ∧ d < hi
/-- A slice of the call's own that does. -/
def OwnIn (c : Cod α) (w : World) (lo hi : Nat) (v : Value) (xs : List α) : Prop := ∃ fp, Cod.rdS c w v xs fp ∧ Mine w lo fp ∧ ∀ d ∈ fp, d < hi

theorem In.rd (h : In c w lo hi v xs) : Rd c w v xs := by
  obtain ⟨fp, h, _⟩ := h
  exact ⟨fp, h⟩
theorem OwnIn.inn (h : OwnIn c w lo hi v xs) : In c w lo hi v xs := by
  obtain ⟨fp, h, m, k⟩ := h
  exact ⟨fp, h, fun d hd => ⟨m.low d hd, k d hd⟩⟩
theorem OwnIn.rd (h : OwnIn c w lo hi v xs) : Rd c w v xs := h.inn.rd
theorem Own.within (h : Own c w lo v xs) : OwnIn c w lo w.heap.size v xs := by
  obtain ⟨fp, h, m⟩ := h
  exact ⟨fp, h, m, Cod.rdS_old c h⟩
theorem Rd.within (h : Rd c w v xs) : In c w 0 w.heap.size v xs := by
  obtain ⟨fp, h⟩ := h
  exact ⟨fp, h, fun d hd => ⟨Nat.zero_le _, Cod.rdS_old c h d hd⟩⟩
theorem In.below (h : In c w lo hi v xs) (k : Below w.heap.size w w') : In c w' lo hi v xs := by
  obtain ⟨fp, h, r⟩ := h
  exact ⟨fp, Cod.rdS_frame c (fun b hb => k.block b (Cod.rdS_old c h b hb)) h, r⟩
theorem OwnIn.below (h : OwnIn c w lo hi v xs) (k : Below w.heap.size w w') : OwnIn c w' lo hi v xs := by
  obtain ⟨fp, h, m, r⟩ := h
  have hf := fun b hb => k.block b (Cod.rdS_old c h b hb)
  exact ⟨fp, Cod.rdS_frame c hf h, m.frame hf, r⟩
theorem In.turn {a b : Nat} (h : In c w lo hi v xs) (k : Turn a b w w') (hd : hi ≤ a ∨ b ≤ lo) : In c w' lo hi v xs := by
  obtain ⟨fp, h, r⟩ := h
  exact ⟨fp, Cod.rdS_frame c (fun d hdf => k.block d (Cod.rdS_old c h d hdf) (by have := r d hdf; omega)) h, r⟩
theorem OwnIn.turn {a b : Nat} (h : OwnIn c w lo hi v xs) (k : Turn a b w w') (hd : hi ≤ a ∨ b ≤ lo) : OwnIn c w' lo hi v xs := by
  obtain ⟨fp, h, m, r⟩ := h
  have hf := fun d (hdf : d ∈ fp) => k.block d (Cod.rdS_old c h d hdf) (by have := r d hdf; have := m.low d hdf; omega)
  exact ⟨fp, Cod.rdS_frame c hf h, m.frame hf, r⟩
theorem HeldS.turn {p : PT} {k L : Nat} (h : HeldS p w v k L) (hb : Below w.heap.size w w') : HeldS p w' v k L := h.below hb

theorem Stored.turn {P : List (Addr × MK)} {k : Nat} (h : Stored w w' P k) (hP : ∀ x ∈ P, lo ≤ x.1.block ∧ x.1.block < hi) : Turn lo hi w w' :=
  ⟨h.os, h.tape, h.output, h.size, fun d hd ho => h.block d hd fun x hx e => by have := hP x hx; omega⟩

/-- What marks a slice, at a slice of the law's own. -/
theorem OwnIn.marked {p : PT} {L : α → Nat} (hf : Fits c p L) (h : OwnIn c w lo hi v xs) : ∃ fp, PT.okS p w v fp ∧ Mine w 0 fp ∧ (PT.planS p w v).length = sumN L xs ∧
    ∀ w' k, Stored w w' (PT.planS p w v) k → HeldS p w' v k (sumN L xs) ∧ Turn lo hi w w' := by
  obtain ⟨fp, h, m, r⟩ := h
  have hs := hf.s h
  refine ⟨fp, hs.1, m.mono (Nat.zero_le _), hs.2, fun w' k st => ⟨?_, st.turn fun x hx => ?_⟩⟩
  · rw [← hs.2]
    exact st.held hs.1 m.nodup
  · have := PT.planS_in hs.1 x hx
    exact ⟨m.low _ this, r _ this⟩
end

theorem sumN_le {α : Type} (f g : α → Nat) (k : Nat) (h : ∀ x, f x ≤ k * (1 + g x)) (l : List α) : sumN f l ≤ k * (l.length + sumC g l) := by
  induction l with
  | nil => exact Nat.zero_le _
  | cons x l ih =>
    show f x + sumN f l ≤ k * (l.length + 1 + (g x + sumC g l))
    have h1 := h x
    rw [show l.length + 1 + (g x + sumC g l) = (1 + g x) + (l.length + sumC g l) from by omega, Nat.mul_add]
    omega
theorem sumN_const {α : Type} (f : α → Nat) (k : Nat) (h : ∀ x, f x ≤ k) (l : List α) : sumN f l ≤ k * l.length := by
  induction l with
  | nil => exact Nat.zero_le _
  | cons x l ih =>
    show f x + sumN f l ≤ k * (l.length + 1)
    have h1 := h x
    rw [Nat.mul_add, Nat.mul_one]
    omega

theorem lenString (l : List ByteArray) : sumN LString l ≤ 3 * costStringS l := by
  have := sumN_const LString 1 (fun _ => Nat.le_refl _) l
  unfold costStringS; omega
theorem lenWrite (l : List WriteD) : sumN LWrite l ≤ 3 * costWriteS l := by
  have := sumN_const LWrite 3 (fun _ => Nat.le_refl _) l
  unfold costWriteS; omega
theorem lenVer (l : List VerD) : sumN LVer l ≤ 3 * costVerS l := by
  have := sumN_const LVer 3 (fun _ => Nat.le_refl _) l
  unfold costVerS; omega
theorem lenOp (l : List OpD) : sumN LOp l ≤ 4 * costOpS l := by
  have := sumN_const LOp 4 (fun _ => Nat.le_refl _) l
  unfold costOpS; omega
theorem lenCell (l : List CellD) : sumN LCell l ≤ 3 * costCellS l := by
  refine sumN_le LCell costCell 3 (fun x => ?_) l
  have := lenVer x.Vers
  unfold LCell costCell; omega

end Go.Proofs.YtpiheobpobclgaaGreatDoor
