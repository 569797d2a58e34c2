/- Plain lemmas and contracts that all proofs of this seat lean on: bundle Rowd. -/
import Derived.Test.YtpiheobpobclgaaGreatDoorKit
import Derived.Test.YtpiheobpobclgaaGreatDoorCore
import Derived.Laws.AppendOwnNone
import Derived.ArgAppend
import Derived.Deep.RegionLaw
import Derived.Deep.RegionLawGrows
/- The program's data types as Lean data. Printed by mkdata.py. -/
namespace Go.Proofs.YtpiheobpobclgaaGreatDoor
open Go.RowKit Go.ChangeShapes Go.WideShapes

/-- The sum of a size over a list. -/
def sumC {α : Type} (f : α → Nat) (l : List α) : Nat := (l.map f).sum
theorem sumC_take {α : Type} (f : α → Nat) (l : List α) (k : Nat) (h : k < l.length) : sumC f (l.take (k + 1)) = sumC f (l.take k) + f l[k] := by
  unfold sumC
  rw [List.take_succ_eq_append_getElem h]
  simp only [List.map_append, List.map_cons, List.map_nil, List.sum_append, List.sum_cons, List.sum_nil, Nat.add_zero]
theorem sumC_le {α : Type} (f : α → Nat) (l : List α) (k : Nat) : sumC f (l.take k) ≤ sumC f l := by
  unfold sumC
  conv => rhs; rw [← List.take_append_drop k l]
  simp only [List.map_append, List.sum_append]
  omega
theorem sumC_get {α : Type} (f : α → Nat) (l : List α) (k : Nat) (h : k < l.length) : f l[k] ≤ sumC f l := by
  have h1 := sumC_take f l k h
  have h2 := sumC_le f l (k + 1)
  omega

/-- What a function that measures says: less than nothing, or how much is left. -/
def SzP (n : Nat) (left : Int) (w : World) (e : Ending) (w' : World) : Prop :=
  Below w.heap.size w w' ∧ ((e = .returned (.int .i64 (left - (n : Int))) ∧ 0 ≤ left - (n : Int)) ∨ (e = .returned (.int .i64 (-1)) ∧ left - (n : Int) < 0))

def costStringS (l : List ByteArray) : Nat := l.length + sumC (fun s => s.size) l
/-- A whole number of 64 bits. -/
def I64 (x : Int) : Prop := -9223372036854775808 ≤ x ∧ x ≤ 9223372036854775807

/-- Span -/
structure SpanD where
  Low : Int
  High : Int

def Cod.span : Cod SpanD := Cod.via (Cod.pair (Cod.int) (Cod.int)) (fun x => (x.Low, x.High))

theorem rd_span {w : World} {g : Nat → Option Value} {x : SpanD} {fp : List Nat} (h : Cod.span.rd w g x fp) : g 0 = some (.int .i64 x.Low) ∧ g 1 = some (.int .i64 x.High) ∧ I64 x.Low ∧ I64 x.High := by
  obtain ⟨_, _, _, ⟨h0, s0, _⟩, ⟨h1, s1, _⟩⟩ := h
  exact ⟨h0, h1, s0, s1⟩

theorem mk_span {w : World} {g : Nat → Option Value} {x : SpanD} (h0 : g 0 = some (.int .i64 x.Low)) (s0 : I64 x.Low) (h1 : g 1 = some (.int .i64 x.High)) (s1 : I64 x.High) : Cod.span.rd w g x [] :=
  ⟨[], [], rfl, ⟨h0, s0, rfl⟩, ⟨h1, s1, rfl⟩⟩

theorem at_span {w : World} {g o : Nat} {x : SpanD} (h : At Cod.span w g o x) : w.cell? ⟨g, o, none⟩ = some (.int .i64 x.Low) ∧ w.cell? ⟨g, o + 1, none⟩ = some (.int .i64 x.High) ∧ I64 x.Low ∧ I64 x.High := by
  obtain ⟨f, h⟩ := h
  exact rd_span h

def costSpanS (l : List SpanD) : Nat := l.length

theorem opensStringS {H : Type} {enc : TypeId × Value → H} {w : World} : Opens enc Tryz.prog w (Cod.slice Cod.str) 22 := opens_slice Tryz.underlying22 (by kernel_rfl) opensStr (by decide)

/-- Write -/
structure WriteD where
  Key : ByteArray
  Val : ByteArray
  Gone : Bool

def Cod.write : Cod WriteD := Cod.via (Cod.pair (Cod.str) (Cod.pair (Cod.str) (Cod.bool))) (fun x => (x.Key, x.Val, x.Gone))

theorem rd_write {w : World} {g : Nat → Option Value} {x : WriteD} {fp : List Nat} (h : Cod.write.rd w g x fp) : g 0 = some (.string x.Key) ∧ g 1 = some (.string x.Val) ∧ g 2 = some (.bool x.Gone) ∧ x.Key.size ≤ maxLen ∧ x.Val.size ≤ maxLen := by
  obtain ⟨_, _, _, ⟨h0, s0, _⟩, ⟨_, _, _, ⟨h1, s1, _⟩, ⟨h2, s2, _⟩⟩⟩ := h
  exact ⟨h0, h1, h2, s0, s1⟩

theorem mk_write {w : World} {g : Nat → Option Value} {x : WriteD} (h0 : g 0 = some (.string x.Key)) (s0 : x.Key.size ≤ maxLen) (h1 : g 1 = some (.string x.Val)) (s1 : x.Val.size ≤ maxLen) (h2 : g 2 = some (.bool x.Gone)) : Cod.write.rd w g x [] :=
  ⟨[], [], rfl, ⟨h0, s0, rfl⟩, ⟨[], [], rfl, ⟨h1, s1, rfl⟩, ⟨h2, trivial, rfl⟩⟩⟩

theorem at_write {w : World} {g o : Nat} {x : WriteD} (h : At Cod.write w g o x) : w.cell? ⟨g, o, none⟩ = some (.string x.Key) ∧ w.cell? ⟨g, o + 1, none⟩ = some (.string x.Val) ∧ w.cell? ⟨g, o + 2, none⟩ = some (.bool x.Gone) ∧ x.Key.size ≤ maxLen ∧ x.Val.size ≤ maxLen := by
  obtain ⟨f, h⟩ := h
  exact rd_write h

def costWrite (x : WriteD) : Nat := x.Key.size + x.Val.size
def costWriteS (l : List WriteD) : Nat := l.length + sumC costWrite l

/-- Ver -/
structure VerD where
  Time : Int
  Val : ByteArray
  Gone : Bool

def Cod.ver : Cod VerD := Cod.via (Cod.pair (Cod.int) (Cod.pair (Cod.str) (Cod.bool))) (fun x => (x.Time, x.Val, x.Gone))

theorem rd_ver {w : World} {g : Nat → Option Value} {x : VerD} {fp : List Nat} (h : Cod.ver.rd w g x fp) : g 0 = some (.int .i64 x.Time) ∧ g 1 = some (.string x.Val) ∧ g 2 = some (.bool x.Gone) ∧ I64 x.Time ∧ x.Val.size ≤ maxLen := by
  obtain ⟨_, _, _, ⟨h0, s0, _⟩, ⟨_, _, _, ⟨h1, s1, _⟩, ⟨h2, s2, _⟩⟩⟩ := h
  exact ⟨h0, h1, h2, s0, s1⟩

theorem mk_ver {w : World} {g : Nat → Option Value} {x : VerD} (h0 : g 0 = some (.int .i64 x.Time)) (s0 : I64 x.Time) (h1 : g 1 = some (.string x.Val)) (s1 : x.Val.size ≤ maxLen) (h2 : g 2 = some (.bool x.Gone)) : Cod.ver.rd w g x [] :=
  ⟨[], [], rfl, ⟨h0, s0, rfl⟩, ⟨[], [], rfl, ⟨h1, s1, rfl⟩, ⟨h2, trivial, rfl⟩⟩⟩

theorem at_ver {w : World} {g o : Nat} {x : VerD} (h : At Cod.ver w g o x) : w.cell? ⟨g, o, none⟩ = some (.int .i64 x.Time) ∧ w.cell? ⟨g, o + 1, none⟩ = some (.string x.Val) ∧ w.cell? ⟨g, o + 2, none⟩ = some (.bool x.Gone) ∧ I64 x.Time ∧ x.Val.size ≤ maxLen := by
  obtain ⟨f, h⟩ := h
  exact rd_ver h

def costVer (x : VerD) : Nat := x.Val.size
def costVerS (l : List VerD) : Nat := l.length + sumC costVer l

/-- Op -/
structure OpD where
  Kind : Int
  Key : ByteArray
  Val : ByteArray
  By : Int

def Cod.op : Cod OpD := Cod.via (Cod.pair (Cod.int) (Cod.pair (Cod.str) (Cod.pair (Cod.str) (Cod.int)))) (fun x => (x.Kind, x.Key, x.Val, x.By))

theorem rd_op {w : World} {g : Nat → Option Value} {x : OpD} {fp : List Nat} (h : Cod.op.rd w g x fp) : g 0 = some (.int .i64 x.Kind) ∧ g 1 = some (.string x.Key) ∧ g 2 = some (.string x.Val) ∧ g 3 = some (.int .i64 x.By) ∧ I64 x.Kind ∧ x.Key.size ≤ maxLen ∧ x.Val.size ≤ maxLen ∧ I64 x.By := by
  obtain ⟨_, _, _, ⟨h0, s0, _⟩, ⟨_, _, _, ⟨h1, s1, _⟩, ⟨_, _, _, ⟨h2, s2, _⟩, ⟨h3, s3, _⟩⟩⟩⟩ := h
  exact ⟨h0, h1, h2, h3, s0, s1, s2, s3⟩

theorem mk_op {w : World} {g : Nat → Option Value} {x : OpD} (h0 : g 0 = some (.int .i64 x.Kind)) (s0 : I64 x.Kind) (h1 : g 1 = some (.string x.Key)) (s1 : x.Key.size ≤ maxLen) (h2 : g 2 = some (.string x.Val)) (s2 : x.Val.size ≤ maxLen) (h3 : g 3 = some (.int .i64 x.By)) (s3 : I64 x.By) : Cod.op.rd w g x [] :=
  ⟨[], [], rfl, ⟨h0, s0, rfl⟩, ⟨[], [], rfl, ⟨h1, s1, rfl⟩, ⟨[], [], rfl, ⟨h2, s2, rfl⟩, ⟨h3, s3, rfl⟩⟩⟩⟩

theorem at_op {w : World} {g o : Nat} {x : OpD} (h : At Cod.op w g o x) : w.cell? ⟨g, o, none⟩ = some (.int .i64 x.Kind) ∧ w.cell? ⟨g, o + 1, none⟩ = some (.string x.Key) ∧ w.cell? ⟨g, o + 2, none⟩ = some (.string x.Val) ∧ w.cell? ⟨g, o + 3, none⟩ = some (.int .i64 x.By) ∧ I64 x.Kind ∧ x.Key.size ≤ maxLen ∧ x.Val.size ≤ maxLen ∧ I64 x.By := by
  obtain ⟨f, h⟩ := h
  exact rd_op h

def costOp (x : OpD) : Nat := x.Key.size + x.Val.size
def costOpS (l : List OpD) : Nat := l.length + sumC costOp l

/-- Cell -/
structure CellD where
  Key : ByteArray
  Vers : List VerD

def Cod.cell : Cod CellD := Cod.via (Cod.pair (Cod.str) (Cod.slice Cod.ver)) (fun x => (x.Key, x.Vers))

theorem rd_cell {w : World} {g : Nat → Option Value} {x : CellD} {fp : List Nat} (h : Cod.cell.rd w g x fp) : g 0 = some (.string x.Key) ∧ (∃ u, g 1 = some u ∧ Rd (Cod.ver) w u x.Vers) ∧ x.Key.size ≤ maxLen := by
  obtain ⟨_, _, _, ⟨h0, s0, _⟩, ⟨u1, h1, r1⟩⟩ := h
  exact ⟨h0, ⟨u1, h1, _, r1⟩, s0⟩

theorem mk_cell {w : World} {g : Nat → Option Value} {x : CellD} (h0 : g 0 = some (.string x.Key)) (s0 : x.Key.size ≤ maxLen) {uVers : Value} {fVers : List Nat} (h1 : g 1 = some uVers) (r1 : Cod.rdS (Cod.ver) w uVers x.Vers fVers) : Cod.cell.rd w g x fVers :=
  ⟨[], fVers, rfl, ⟨h0, s0, rfl⟩, ⟨uVers, h1, r1⟩⟩

theorem at_cell {w : World} {g o : Nat} {x : CellD} (h : At Cod.cell w g o x) : w.cell? ⟨g, o, none⟩ = some (.string x.Key) ∧ (∃ u, w.cell? ⟨g, o + 1, none⟩ = some u ∧ Rd (Cod.ver) w u x.Vers) ∧ x.Key.size ≤ maxLen := by
  obtain ⟨f, h⟩ := h
  exact rd_cell h

def costCell (x : CellD) : Nat := x.Key.size + costVerS x.Vers
def costCellS (l : List CellD) : Nat := l.length + sumC costCell l

/-- Rec -/
structure RecD where
  Kind : Int
  Txn : Int
  Time : Int
  Lead : Int
  Reads : List ByteArray
  Writes : List WriteD
  Yes : Bool

def Cod.recd : Cod RecD := Cod.via (Cod.pair (Cod.int) (Cod.pair (Cod.int) (Cod.pair (Cod.int) (Cod.pair (Cod.int) (Cod.pair (Cod.slice Cod.str) (Cod.pair (Cod.slice Cod.write) (Cod.bool))))))) (fun x => (x.Kind, x.Txn, x.Time, x.Lead, x.Reads, x.Writes, x.Yes))

theorem rd_recd {w : World} {g : Nat → Option Value} {x : RecD} {fp : List Nat} (h : Cod.recd.rd w g x fp) : g 0 = some (.int .i64 x.Kind) ∧ g 1 = some (.int .i64 x.Txn) ∧ g 2 = some (.int .i64 x.Time) ∧ g 3 = some (.int .i64 x.Lead) ∧ (∃ u, g 4 = some u ∧ Rd (Cod.str) w u x.Reads) ∧ (∃ u, g 5 = some u ∧ Rd (Cod.write) w u x.Writes) ∧ g 6 = some (.bool x.Yes) ∧ I64 x.Kind ∧ I64 x.Txn ∧ I64 x.Time ∧ I64 x.Lead := by
  obtain ⟨_, _, _, ⟨h0, s0, _⟩, ⟨_, _, _, ⟨h1, s1, _⟩, ⟨_, _, _, ⟨h2, s2, _⟩, ⟨_, _, _, ⟨h3, s3, _⟩, ⟨_, _, _, ⟨u4, h4, r4⟩, ⟨_, _, _, ⟨u5, h5, r5⟩, ⟨h6, s6, _⟩⟩⟩⟩⟩⟩⟩ := h
  exact ⟨h0, h1, h2, h3, ⟨u4, h4, _, r4⟩, ⟨u5, h5, _, r5⟩, h6, s0, s1, s2, s3⟩

theorem mk_recd {w : World} {g : Nat → Option Value} {x : RecD} (h0 : g 0 = some (.int .i64 x.Kind)) (s0 : I64 x.Kind) (h1 : g 1 = some (.int .i64 x.Txn)) (s1 : I64 x.Txn) (h2 : g 2 = some (.int .i64 x.Time)) (s2 : I64 x.Time) (h3 : g 3 = some (.int .i64 x.Lead)) (s3 : I64 x.Lead) {uReads : Value} {fReads : List Nat} (h4 : g 4 = some uReads) (r4 : Cod.rdS (Cod.str) w uReads x.Reads fReads) {uWrites : Value} {fWrites : List Nat} (h5 : g 5 = some uWrites) (r5 : Cod.rdS (Cod.write) w uWrites x.Writes fWrites) (h6 : g 6 = some (.bool x.Yes)) : Cod.recd.rd w g x (fReads ++ (fWrites ++ [])) :=
  ⟨[], (fReads ++ (fWrites ++ [])), rfl, ⟨h0, s0, rfl⟩, ⟨[], (fReads ++ (fWrites ++ [])), rfl, ⟨h1, s1, rfl⟩, ⟨[], (fReads ++ (fWrites ++ [])), rfl, ⟨h2, s2, rfl⟩, ⟨[], (fReads ++ (fWrites ++ [])), rfl, ⟨h3, s3, rfl⟩, ⟨fReads, (fWrites ++ []), rfl, ⟨uReads, h4, r4⟩, ⟨fWrites, [], rfl, ⟨uWrites, h5, r5⟩, ⟨h6, trivial, rfl⟩⟩⟩⟩⟩⟩⟩

theorem at_recd {w : World} {g o : Nat} {x : RecD} (h : At Cod.recd w g o x) : w.cell? ⟨g, o, none⟩ = some (.int .i64 x.Kind) ∧ w.cell? ⟨g, o + 1, none⟩ = some (.int .i64 x.Txn) ∧ w.cell? ⟨g, o + 2, none⟩ = some (.int .i64 x.Time) ∧ w.cell? ⟨g, o + 3, none⟩ = some (.int .i64 x.Lead) ∧ (∃ u, w.cell? ⟨g, o + 4, none⟩ = some u ∧ Rd (Cod.str) w u x.Reads) ∧ (∃ u, w.cell? ⟨g, o + 5, none⟩ = some u ∧ Rd (Cod.write) w u x.Writes) ∧ w.cell? ⟨g, o + 6, none⟩ = some (.bool x.Yes) ∧ I64 x.Kind ∧ I64 x.Txn ∧ I64 x.Time ∧ I64 x.Lead := by
  obtain ⟨f, h⟩ := h
  exact rd_recd h

def costRec (x : RecD) : Nat := costStringS x.Reads + costWriteS x.Writes
def costRecS (l : List RecD) : Nat := l.length + sumC costRec l

set_option maxRecDepth 100000 in
/-- A list that came in. -/
theorem arg_rows {H : Type} {enc : TypeId × Value → H} {w : World} {α : Type} {c : Cod α} {t e : TypeId} {r : Reach} {b0 : Nat} {v : Value} {d : DataW H} {ps : List MemPlace} (ht : Tryz.prog.underlying t = some (.slice e)) (ho : Opens enc Tryz.prog w (Cod.slice c) t) (hv : Value.okWide Tryz.prog w r b0 t v) (hd : DataW.Trod enc Tryz.prog w 0 (fun _ => true) true t v d ps) :
    ∃ l : List α, Rd c w v l := by
  obtain ⟨xs, fp, v', h0, hr⟩ := open_arg ho hd
  obtain ⟨a0, n0, c0, rfl⟩ := okWide_slice ht hv
  simp only [Value.cells, List.getElem?_toArray, List.getElem?_cons_zero, Option.some.injEq] at h0
  rw [← h0] at hr
  exact ⟨xs, fp, hr⟩

end Go.Proofs.YtpiheobpobclgaaGreatDoor


/- Rows of data that lead nowhere: a whole list appended to a row of the call's own. Plain lemmas over any program. -/
namespace Go.Proofs.YtpiheobpobclgaaGreatDoor
open Go.RowKit

/-- Data that lead nowhere: they read alike in every world, and each cell is one cell. -/
def Flat {α : Type} (c : Cod α) : Prop := ∀ {w w' : World} {g : Nat → Option Value} {x : α} {f : List Nat}, c.rd w g x f → f = [] ∧ c.rd w' g x [] ∧ ∀ j, j < c.size → ∃ u, g j = some u ∧ u.oneCell' = true

theorem flat_one {α : Type} (mk : α → Value) (ok : α → Prop) (h : ∀ x, (mk x).oneCell' = true) : Flat (Cod.one mk ok) := fun {_ _ g x _} ⟨a, b, c⟩ =>
  ⟨c, ⟨a, b, rfl⟩, fun j hj => by
    have : j = 0 := by have : j < 1 := hj; omega
    subst this
    exact ⟨_, a, h x⟩⟩
theorem flat_pair {α β : Type} {a : Cod α} {b : Cod β} (h : Flat a) (k : Flat b) : Flat (Cod.pair a b) := fun {w w' g x f} ⟨f1, f2, e, h1, h2⟩ => by
  obtain ⟨e1, r1, s1⟩ := h (w' := w') h1
  obtain ⟨e2, r2, s2⟩ := k (w' := w') h2
  refine ⟨by rw [e, e1, e2]; rfl, ⟨[], [], rfl, r1, r2⟩, fun j hj => ?_⟩
  by_cases hja : j < a.size
  · exact s1 j hja
  · obtain ⟨u, hu, ho⟩ := s2 (j - a.size) (by have : j < a.size + b.size := hj; omega)
    exact ⟨u, by rw [← hu]; show g j = g (a.size + (j - a.size)); rw [show a.size + (j - a.size) = j from by omega], ho⟩
theorem flat_via {α β : Type} {c : Cod α} (h : Flat c) (f : β → α) : Flat (Cod.via c f) := fun hr => h hr
theorem flat_int : Flat Cod.int := flat_one _ _ fun _ => by simp [Value.oneCell']
theorem flat_bool : Flat Cod.bool := flat_one _ _ fun _ => by simp [Value.oneCell']
theorem flat_str : Flat Cod.str := flat_one _ _ fun _ => by simp [Value.oneCell']
theorem flat_write : Flat Cod.write := flat_via (flat_pair flat_str (flat_pair flat_str flat_bool)) _
theorem flat_ver : Flat Cod.ver := flat_via (flat_pair flat_int (flat_pair flat_str flat_bool)) _
theorem flat_op : Flat Cod.op := flat_via (flat_pair flat_int (flat_pair flat_str (flat_pair flat_str flat_int))) _

section
variable {P : Program} {ops : Array Oper} {rest : List Oper} {o : Oper} {a : Act} {Q : Exit → Act → World → Prop} {α : Type} {c : Cod α}

/-- The cells of what came in. -/
def cellsFrom (w : World) (b o n : Nat) : List Value := (List.range n).map fun i => valAt w b (o + i)
theorem cellsFrom_length (w : World) (b o n : Nat) : (cellsFrom w b o n).length = n := by simp [cellsFrom]
theorem cellsFrom_get {w : World} {b o n i : Nat} (h : i < n) : (cellsFrom w b o n)[i]? = some (valAt w b (o + i)) := by
  unfold cellsFrom
  rw [List.getElem?_map, List.getElem?_range h]
  rfl

theorem div_split {i s n : Nat} (hs : 0 < s) (h : i < n * s) : i / s < n ∧ i = (i / s) * s + i % s ∧ i % s < s :=
  ⟨(Nat.div_lt_iff_lt_mul hs).2 h, by have := Nat.div_add_mod i s; rw [Nat.mul_comm] at this; omega, Nat.mod_lt _ hs⟩

theorem flat_cells (hf : Flat c) (hsz : 0 < c.size) {w : World} {b o : Nat} {ys : List α} (h : ∀ j (h : j < ys.length), At c w b (o + j * c.size) ys[j]) :
    (∀ i, i < ys.length * c.size → w.cell? ⟨b, o + i, none⟩ = some (valAt w b (o + i)) ∧ (valAt w b (o + i)).oneCell' = true) ∧
    ∀ (w' : World) (j : Nat) (h : j < ys.length), c.rd w' (fun i => (cellsFrom w b o (ys.length * c.size))[j * c.size + i]?) ys[j] [] := by
  have h1 : ∀ i, i < ys.length * c.size → w.cell? ⟨b, o + i, none⟩ = some (valAt w b (o + i)) ∧ (valAt w b (o + i)).oneCell' = true := fun i hi => by
    obtain ⟨hj, he, hr⟩ := div_split hsz hi
    obtain ⟨f, hrd⟩ := h _ hj
    obtain ⟨_, _, hc⟩ := hf (w' := w) hrd
    obtain ⟨u, hu, ho⟩ := hc _ hr
    have hu' : w.cell? ⟨b, o + i, none⟩ = some u := by
      rw [← hu]
      show _ = w.cell? ⟨b, o + i / c.size * c.size + i % c.size, none⟩
      rw [Nat.add_assoc, ← he]
    refine ⟨has_of hu', ?_⟩
    unfold valAt
    rw [hu']
    exact ho
  refine ⟨h1, fun w' j hj => ?_⟩
  obtain ⟨f, hrd⟩ := h j hj
  refine c.ext (fun i hi => ?_) (hf (w' := w') hrd).2.1
  show w.cell? ⟨b, o + j * c.size + i, none⟩ = _
  have hlt := idx_lt hj hi
  rw [cellsFrom_get hlt, Nat.add_assoc]
  exact (h1 _ hlt).1

/-- A row that is being built, and a list more. -/
theorem PartC.more {w w1 w2 : World} {base : Nat} {e : TypeId} {v v' : Value} {n : Nat} {xs ys : List α} {cells news : List Value} (h : PartC c w base e v n xs cells) (k : Below w.heap.size w w1) (hlen : xs.length = n)
    (hr : ∀ (w' : World) (j : Nat) (h : j < ys.length), c.rd w' (fun i => news[j * c.size + i]?) ys[j] [])
    (ho2 : w2.ownsRow base e c.size v' (n + ys.length) (cells ++ news)) (kg : w1.grownBy w2 v.ownBlock) (hv' : v'.ownBlock = v.ownBlock ∨ v'.ownBlock = some w1.heap.size) :
    PartC c w2 base e v' (n + ys.length) (xs ++ ys) (cells ++ news) := by
  obtain ⟨fs, ho, hl, hf, hrd, hmf, hlt, hb⟩ := h
  have hcl : cells.length = n * c.size := ho.1
  have hfl : (fs ++ List.replicate ys.length ([] : List Nat)).flatten = fs.flatten := by
    rw [List.flatten_append, show (List.replicate ys.length ([] : List Nat)).flatten = [] from List.flatten_eq_nil_iff.2 fun x hx => List.eq_of_mem_replicate hx, List.append_nil]
  subst hlen
  have hfold : ∀ b ∈ fs.flatten, w2.heap[b]? = w.heap[b]? := fun b hb' => by
    rw [kg.block b (Nat.lt_of_lt_of_le (hlt b hb') k.size) (fun e => hb b e.symm hb')]
    exact k.block b (hlt b hb')
  refine ⟨fs ++ List.replicate ys.length [], ho2, by simp, by simp [hf], ?_, ?_, ?_, ?_⟩
  · intro j hj f' hf'
    simp only [List.length_append] at hj
    by_cases hjx : j < xs.length
    · rw [List.getElem?_append_left (by omega)] at hf'
      rw [List.getElem_append_left hjx]
      refine c.ext (fun i hi => ?_) (c.frame (fun b hb' => hfold b ?_) (hrd j hjx f' hf'))
      · exact (List.getElem?_append_left (by rw [hcl]; exact idx_lt hjx hi)).symm
      · exact List.mem_flatten.2 ⟨f', List.mem_of_getElem? hf', hb'⟩
    · rw [List.getElem?_append_right (by omega)] at hf'
      have hf0 : f' = [] := List.eq_of_mem_replicate (List.mem_of_getElem? hf')
      subst hf0
      rw [List.getElem_append_right (by omega)]
      refine c.ext (fun i hi => ?_) (hr w2 (j - xs.length) (by omega))
      have hge : xs.length * c.size ≤ j * c.size := Nat.mul_le_mul_right _ (by omega)
      rw [List.getElem?_append_right (by rw [hcl]; omega), hcl, Nat.sub_mul]
      congr 1
      omega
  · rw [hfl]; exact hmf.frame hfold
  · rw [hfl]; exact fun b hb' => Nat.lt_of_lt_of_le (hlt b hb') (Nat.le_trans k.size kg.size)
  · rw [hfl]
    intro b he hb'
    rcases hv' with e' | e'
    · exact hb b (e' ▸ he) hb'
    · rw [e'] at he
      injection he with he
      subst he
      have := hlt _ hb'
      have := k.size
      omega

theorem PartC.form {w : World} {base : Nat} {e : TypeId} {v : Value} {n : Nat} {xs : List α} {cells : List Value} (h : PartC c w base e v n xs cells) : ∃ p cap, v = .slice p n cap := by
  obtain ⟨_, ho, _⟩ := h
  rcases own_forms ho with ⟨rfl, h0⟩ | ⟨g, cap, rfl⟩
  · exact ⟨none, 0, by rw [h0]⟩
  · exact ⟨_, cap, rfl⟩

/-- append(s, x...) where x came in, or is the call's own. -/
theorem wpList_append_flat (hflat : Flat c) (Wp : World) (hgd : o.guard = none) (s x : Operand) (t : TypeId) (ho : o.op = .call { callee := .builtin .append, args := #[s, x], argTypes := #[t, t] })
    (base : Nat) (e : TypeId) (i : TypeInfo) (z : Value) (bytes : Nat) (ht : P.underlying t = some (.slice e)) (hi : P.info? e = some i) (hz : i.zero = some z)
    (hsize : i.size = c.size) (hby : i.bytes = bytes) (hzs : z.cells.size = c.size) (hsz : 0 < c.size) (hbp : 0 < bytes)
    (w0 : World) (v : Value) (n : Nat) (xs : List α) (cells : List Value) (hs : a.eval s = v) (hp : PartC c w0 base e v n xs cells) (hlen : xs.length = n) (k : Below w0.heap.size w0 Wp)
    (src : Value) (ys : List α) (hx : a.eval x = src) (hr : Rd c Wp src ys)
    (hbytes : (n + ys.length) * bytes ≤ room) (hbase : base ≤ w0.heap.size)
    (h : ∀ p cap w' cells', PartC c w' base e (.slice p (n + ys.length) cap) (n + ys.length) (xs ++ ys) cells' → Below base Wp w' → wpList P ops Q rest (a.put o.dst (.slice p (n + ys.length) cap)) w') :
    wpList P ops Q (o :: rest) a Wp := by
  obtain ⟨fs, hown, _⟩ := id (hp.below k)
  obtain ⟨p, cap, rfl, hlc, hcm, hnone, r⟩ : ∃ p cap, src = .slice p ys.length cap ∧ ys.length ≤ cap ∧ cap ≤ maxLen ∧ (p = none → cap = 0) ∧ (0 < ys.length → ∃ g o, p = some ⟨g, o, none⟩ ∧ g < Wp.heap.size ∧ ∀ j (h : j < ys.length), At c Wp g (o + j * c.size) ys[j]) := by
    obtain ⟨fp, a', cap, hv, h1, h2, h3, h4⟩ := hr
    refine ⟨a', cap, hv, h1, h2, h3, fun hpos => ?_⟩
    rcases h4 with ⟨rfl, _⟩ | ⟨b, off, fs, ha, _, hb, he⟩
    · simp at hpos
    · refine ⟨b, off, ha, hb, fun j hj => ?_⟩
      obtain ⟨f, _, h1⟩ := Cod.elems_at _ he j hj
      exact ⟨f, h1⟩
  by_cases hp0 : p = none
  · subst hp0
    have hc0 := hnone rfl
    subst hc0
    have hy : ys = [] := List.eq_nil_of_length_eq_zero (by omega)
    subst hy
    obtain ⟨p', c', rfl⟩ := hp.form
    refine wpList_append_own_none hgd s x t ho base e i c.size ht hi _ n cells hs hown (by rw [hx]; rfl) ?_
    have := h p' c' Wp cells (by simpa using hp.below k) (Below.refl _ _)
    simpa using this
  · obtain ⟨ad, rfl⟩ := Option.ne_none_iff_exists'.1 hp0
    have hnews : ∃ news : List Value, news.length = ys.length * c.size ∧ (∀ j u, news[j]? = some u → Wp.cell? (ad.add j) = some u) ∧ (∀ u ∈ news, u.oneCell' = true) ∧
        ∀ (w' : World) (j : Nat) (h : j < ys.length), c.rd w' (fun i => news[j * c.size + i]?) ys[j] [] := by
      rcases Nat.eq_zero_or_pos ys.length with h0 | hpos
      · have hy : ys = [] := List.eq_nil_of_length_eq_zero h0
        subst hy
        exact ⟨[], by simp, by simp, by simp, fun _ j hj => by simp at hj⟩
      · obtain ⟨g, o', he, hg, hc⟩ := r hpos
        injection he with he
        subst he
        obtain ⟨c1, c2⟩ := flat_cells hflat hsz hc
        refine ⟨cellsFrom Wp g o' (ys.length * c.size), cellsFrom_length _ _ _ _, fun j u hu => ?_, fun u hu => ?_, c2⟩
        · have hj : j < ys.length * c.size := by
            have := (List.getElem?_eq_some_iff.1 hu).1
            rwa [cellsFrom_length] at this
          rw [cellsFrom_get hj] at hu
          rw [WideShapes.add_plain, (c1 j hj).1, hu]
        · obtain ⟨j, hj, rfl⟩ := List.getElem_of_mem hu
          have hj' := hj
          rw [cellsFrom_length] at hj'
          have := cellsFrom_get (w := Wp) (b := g) (o := o') hj'
          rw [List.getElem?_eq_getElem hj] at this
          injection this with this
          rw [this]
          exact (c1 j hj').2
    obtain ⟨news, n1, n2, n3, n4⟩ := hnews
    have h63 : n + ys.length ≤ maxLen := by
      have h2 : (n + ys.length) * 1 ≤ (n + ys.length) * bytes := Nat.mul_le_mul_left _ hbp
      have h3 : (n + ys.length) * bytes ≤ room := hbytes
      unfold room at h3
      unfold maxLen
      omega
    refine wpList_append_own_at _ hgd s x t ho base e i z c.size bytes ht hi hz hsize hby hzs hsz v n cells hs hown ad ys.length cap news hx n1 n2 n3 h63 hbytes (Nat.le_trans hbase k.size) ?_
    intro v' w' hown' hg _ hat
    have hP := hp.more k hlen n4 hown' hg hat
    obtain ⟨p', c', rfl⟩ := hP.form
    refine h p' c' w' _ hP (Below.grown (Below.refl _ _) hg (Nat.le_trans hbase k.size) fun j hj => (hown.lt j hj).1)

end
end Go.Proofs.YtpiheobpobclgaaGreatDoor


/- append to a row of data that is being built, at a step of a region that draws its order. Plain lemmas over any program. -/
namespace Go.Proofs.YtpiheobpobclgaaGreatDoor
open Go.RowKit

section
variable {P : Program} {ops : Array Oper} {o : Oper} {a : Act} {Q : Exit → Act → World → Prop} {α : Type} {c : Cod α}

theorem step_append_part {K : Act → World → Prop} {E : Prop} (Wp : World) (hgd : o.guard = none) (s x : Operand) (t : TypeId) (ho : o.op = .call { callee := .builtin .append, args := #[s, x], argTypes := #[t, t] })
    (base : Nat) (e e' : TypeId) (i : TypeInfo) (z : Value) (bytes : Nat) (ht : P.underlying t = some (.slice e)) (hi : P.info? e = some i) (hz : i.zero = some z)
    (hsize : i.size = c.size) (hby : i.bytes = bytes) (hzs : z.cells.size = c.size) (hsz : 0 < c.size) (hbp : 0 < bytes)
    (w0 : World) (v : Value) (n : Nat) (xs : List α) (cells : List Value) (hs : a.eval s = v) (hp : PartC c w0 base e v n xs cells) (hlen : xs.length = n) (k : Below w0.heap.size w0 Wp)
    (y : α) (f : List Nat) (cs : List Value) (hcl : cs.length = c.size) (hrd : c.rd Wp (lst cs) y f) (hm : Mine Wp w0.heap.size f)
    (H : Nat) (hH : Wp.heap.size = H) (hx : a.eval x = .slice (some ⟨H, 0, none⟩) 1 1) (h1 : ∀ u ∈ cs, u.oneCell' = true)
    (hbytes : (n + 1) * bytes ≤ room) (hbase : base ≤ w0.heap.size)
    (h : ∀ g cap w', Part c w' base e (.slice (some ⟨g, 0, none⟩) (n + 1) cap) (n + 1) (xs ++ [y]) → Below base Wp w' → K (a.put o.dst (.slice (some ⟨g, 0, none⟩) (n + 1) cap)) w') :
    if Region.wanted o (yielded ops a.tmps) = true then Oper.wp P o a (Wp.alloc (.cells cs.toArray e')) K Q else E := by
  subst hH
  obtain ⟨fs, hown, _⟩ := id (hp.below k)
  refine step_append_lies _ hgd s x t ho base e i z c.size bytes ht hi hz hsize hby hzs hsz v n cells hs (hown.alloc _) ⟨Wp.heap.size, 0, none⟩ 1 1 cs hx (by omega) ?_ h1 (by decide) ?_ hbytes (by have := k.size; simp; omega) _ rfl ?_
  · intro j u hj
    rw [WideShapes.add_plain, Nat.zero_add, World.cell?_alloc_mark]
    simpa using hj
  · have h2 : (n + 1) * 1 ≤ (n + 1) * bytes := Nat.mul_le_mul_left _ hbp
    have h3 : (n + 1) * bytes ≤ room := hbytes
    unfold room at h3
    unfold maxLen
    omega
  · intro g cap w' hown' hg hat _
    have k2 : Below w0.heap.size w0 (Wp.alloc (.cells cs.toArray e')) := below_alloc _ k
    have hrd2 : c.rd (Wp.alloc (.cells cs.toArray e')) (lst cs) y f := c.frame (fun b hb => Below.heap_alloc _ _ _ (c.old hrd b hb)) hrd
    have hm2 : Mine (Wp.alloc (.cells cs.toArray e')) w0.heap.size f := hm.frame fun b hb => Below.heap_alloc _ _ _ (c.old hrd b hb)
    refine h g cap w' (hp.snoc k2 hrd2 hm2 hlen hown' hg rfl ?_ hbase) ?_
    · rcases hat with hat | hat
      · exact Or.inl hat
      · exact Or.inr (Nat.le_of_eq hat.symm)
    · have hg' : Wp.grownBy w' v.ownBlock := ⟨hg.os, hg.tape, hg.output, Nat.le_trans (by simp) hg.size, fun j hj hne => by
        rw [hg.block j (by simp; omega) hne]
        exact Below.heap_alloc _ _ _ hj⟩
      exact Below.grown (Below.refl _ _) hg' (Nat.le_trans hbase k.size) fun j hj => (hown.lt j hj).1

end
end Go.Proofs.YtpiheobpobclgaaGreatDoor


/- Cells and rows over a call that turns only what is new. Plain lemmas; no program. -/
namespace Go.Proofs.YtpiheobpobclgaaGreatDoor
open Go.RowKit

theorem cell_from {W w' : World} {B b i : Nat} {u : Value} (hb : Below B W w') (h : b < B) (hc : W.cell? ⟨b, i, none⟩ = some u) : w'.cell? ⟨b, i, none⟩ = some u := (hb.cell (p := ⟨b, i, none⟩) h).trans hc
theorem free_from {W w' : World} {B b i : Nat} (hb : Below B W w') (h : b < B) (hc : W.frozen? ⟨b, i, none⟩ = false) : w'.frozen? ⟨b, i, none⟩ = false := (hb.frozen (p := ⟨b, i, none⟩) h).trans hc

theorem made0 {w0 : World} {e : TypeId} {size H base : Nat} (hH : w0.heap.size = H) (hb : base ≤ H) : (w0.alloc (.cells #[] e)).ownsRow base e size (.slice (some ⟨H, 0, none⟩) 0 0) 0 [] := by
  subst hH
  exact World.ownsRow_made _ _ _ hb (Nat.zero_le _) (by simp)

theorem keep_cut {B : Nat} {w2 V w3 : World} (k : Keep B w2 V) (h : Below w2.heap.size V w3) : Keep B w2 w3 :=
  ⟨Nat.le_trans k.size h.size, fun b h1 h2 => (h.block b h2).trans (k.block b h1 h2)⟩

end Go.Proofs.YtpiheobpobclgaaGreatDoor


/- More of the program's data types as Lean data: entries, replicas, groups. Printed by mkdata2.py. -/
namespace Go.Proofs.YtpiheobpobclgaaGreatDoor
open Go.RowKit Go.ChangeShapes Go.WideShapes

/-- Entry -/
structure EntryD where
  Term : Int
  Rec : RecD

def Cod.entry : Cod EntryD := Cod.via (Cod.pair Cod.int Cod.recd) (fun x => (x.Term, x.Rec))

theorem rd_entry {w : World} {g : Nat → Option Value} {x : EntryD} {fp : List Nat} (h : Cod.entry.rd w g x fp) : g 0 = some (.int .i64 x.Term) ∧ g 1 = some (.int .i64 x.Rec.Kind) ∧ g 2 = some (.int .i64 x.Rec.Txn) ∧ g 3 = some (.int .i64 x.Rec.Time) ∧ g 4 = some (.int .i64 x.Rec.Lead) ∧ (∃ u, g 5 = some u ∧ Rd (Cod.str) w u x.Rec.Reads) ∧ (∃ u, g 6 = some u ∧ Rd (Cod.write) w u x.Rec.Writes) ∧ g 7 = some (.bool x.Rec.Yes) ∧ I64 x.Term ∧ I64 x.Rec.Kind ∧ I64 x.Rec.Txn ∧ I64 x.Rec.Time ∧ I64 x.Rec.Lead := by
  obtain ⟨_, _, _, ⟨h0, s0, _⟩, ⟨_, _, _, ⟨h1, s1, _⟩, ⟨_, _, _, ⟨h2, s2, _⟩, ⟨_, _, _, ⟨h3, s3, _⟩, ⟨_, _, _, ⟨h4, s4, _⟩, ⟨_, _, _, ⟨u5, h5, r5⟩, ⟨_, _, _, ⟨u6, h6, r6⟩, ⟨h7, s7, _⟩⟩⟩⟩⟩⟩⟩⟩ := h
  exact ⟨h0, h1, h2, h3, h4, ⟨u5, h5, _, r5⟩, ⟨u6, h6, _, r6⟩, h7, s0, s1, s2, s3, s4⟩

theorem mk_entry {w : World} {g : Nat → Option Value} {x : EntryD} (h0 : g 0 = some (.int .i64 x.Term)) (s0 : I64 x.Term) (h1 : g 1 = some (.int .i64 x.Rec.Kind)) (s1 : I64 x.Rec.Kind) (h2 : g 2 = some (.int .i64 x.Rec.Txn)) (s2 : I64 x.Rec.Txn) (h3 : g 3 = some (.int .i64 x.Rec.Time)) (s3 : I64 x.Rec.Time) (h4 : g 4 = some (.int .i64 x.Rec.Lead)) (s4 : I64 x.Rec.Lead) {uRecReads : Value} {fRecReads : List Nat} (h5 : g 5 = some uRecReads) (r5 : Cod.rdS (Cod.str) w uRecReads x.Rec.Reads fRecReads) {uRecWrites : Value} {fRecWrites : List Nat} (h6 : g 6 = some uRecWrites) (r6 : Cod.rdS (Cod.write) w uRecWrites x.Rec.Writes fRecWrites) (h7 : g 7 = some (.bool x.Rec.Yes)) : Cod.entry.rd w g x (fRecReads ++ (fRecWrites ++ [])) :=
  ⟨[], (fRecReads ++ (fRecWrites ++ [])), rfl, ⟨h0, s0, rfl⟩, ⟨[], (fRecReads ++ (fRecWrites ++ [])), rfl, ⟨h1, s1, rfl⟩, ⟨[], (fRecReads ++ (fRecWrites ++ [])), rfl, ⟨h2, s2, rfl⟩, ⟨[], (fRecReads ++ (fRecWrites ++ [])), rfl, ⟨h3, s3, rfl⟩, ⟨[], (fRecReads ++ (fRecWrites ++ [])), rfl, ⟨h4, s4, rfl⟩, ⟨fRecReads, (fRecWrites ++ []), rfl, ⟨uRecReads, h5, r5⟩, ⟨fRecWrites, [], rfl, ⟨uRecWrites, h6, r6⟩, ⟨h7, trivial, rfl⟩⟩⟩⟩⟩⟩⟩⟩

theorem at_entry {w : World} {g o : Nat} {x : EntryD} (h : At Cod.entry w g o x) : w.cell? ⟨g, o, none⟩ = some (.int .i64 x.Term) ∧ w.cell? ⟨g, o + 1, none⟩ = some (.int .i64 x.Rec.Kind) ∧ w.cell? ⟨g, o + 2, none⟩ = some (.int .i64 x.Rec.Txn) ∧ w.cell? ⟨g, o + 3, none⟩ = some (.int .i64 x.Rec.Time) ∧ w.cell? ⟨g, o + 4, none⟩ = some (.int .i64 x.Rec.Lead) ∧ (∃ u, w.cell? ⟨g, o + 5, none⟩ = some u ∧ Rd (Cod.str) w u x.Rec.Reads) ∧ (∃ u, w.cell? ⟨g, o + 6, none⟩ = some u ∧ Rd (Cod.write) w u x.Rec.Writes) ∧ w.cell? ⟨g, o + 7, none⟩ = some (.bool x.Rec.Yes) ∧ I64 x.Term ∧ I64 x.Rec.Kind ∧ I64 x.Rec.Txn ∧ I64 x.Rec.Time ∧ I64 x.Rec.Lead := by
  obtain ⟨f, h⟩ := h
  exact rd_entry h

def costEntry (x : EntryD) : Nat := costStringS x.Rec.Reads + costWriteS x.Rec.Writes
def costEntryS (l : List EntryD) : Nat := l.length + sumC costEntry l

/-- Replica -/
structure ReplicaD where
  Up : Bool
  Log : List EntryD
  Sure : Int

def Cod.replica : Cod ReplicaD := Cod.via (Cod.pair (Cod.bool) (Cod.pair (Cod.slice Cod.entry) (Cod.int))) (fun x => (x.Up, x.Log, x.Sure))

theorem rd_replica {w : World} {g : Nat → Option Value} {x : ReplicaD} {fp : List Nat} (h : Cod.replica.rd w g x fp) : g 0 = some (.bool x.Up) ∧ (∃ u, g 1 = some u ∧ Rd (Cod.entry) w u x.Log) ∧ g 2 = some (.int .i64 x.Sure) ∧ I64 x.Sure := by
  obtain ⟨_, _, _, ⟨h0, s0, _⟩, ⟨_, _, _, ⟨u1, h1, r1⟩, ⟨h2, s2, _⟩⟩⟩ := h
  exact ⟨h0, ⟨u1, h1, _, r1⟩, h2, s2⟩

theorem mk_replica {w : World} {g : Nat → Option Value} {x : ReplicaD} (h0 : g 0 = some (.bool x.Up)) {uLog : Value} {fLog : List Nat} (h1 : g 1 = some uLog) (r1 : Cod.rdS (Cod.entry) w uLog x.Log fLog) (h2 : g 2 = some (.int .i64 x.Sure)) (s2 : I64 x.Sure) : Cod.replica.rd w g x (fLog ++ []) :=
  ⟨[], (fLog ++ []), rfl, ⟨h0, trivial, rfl⟩, ⟨fLog, [], rfl, ⟨uLog, h1, r1⟩, ⟨h2, s2, rfl⟩⟩⟩

theorem at_replica {w : World} {g o : Nat} {x : ReplicaD} (h : At Cod.replica w g o x) : w.cell? ⟨g, o, none⟩ = some (.bool x.Up) ∧ (∃ u, w.cell? ⟨g, o + 1, none⟩ = some u ∧ Rd (Cod.entry) w u x.Log) ∧ w.cell? ⟨g, o + 2, none⟩ = some (.int .i64 x.Sure) ∧ I64 x.Sure := by
  obtain ⟨f, h⟩ := h
  exact rd_replica h

def costReplica (x : ReplicaD) : Nat := costEntryS x.Log
def costReplicaS (l : List ReplicaD) : Nat := l.length + sumC costReplica l

/-- Group -/
structure GroupD where
  Reps : List ReplicaD
  Term : Int
  Lead : Int

def Cod.group : Cod GroupD := Cod.via (Cod.pair (Cod.slice Cod.replica) (Cod.pair (Cod.int) (Cod.int))) (fun x => (x.Reps, x.Term, x.Lead))

theorem rd_group {w : World} {g : Nat → Option Value} {x : GroupD} {fp : List Nat} (h : Cod.group.rd w g x fp) : (∃ u, g 0 = some u ∧ Rd (Cod.replica) w u x.Reps) ∧ g 1 = some (.int .i64 x.Term) ∧ g 2 = some (.int .i64 x.Lead) ∧ I64 x.Term ∧ I64 x.Lead := by
  obtain ⟨_, _, _, ⟨u0, h0, r0⟩, ⟨_, _, _, ⟨h1, s1, _⟩, ⟨h2, s2, _⟩⟩⟩ := h
  exact ⟨⟨u0, h0, _, r0⟩, h1, h2, s1, s2⟩

theorem mk_group {w : World} {g : Nat → Option Value} {x : GroupD} {uReps : Value} {fReps : List Nat} (h0 : g 0 = some uReps) (r0 : Cod.rdS (Cod.replica) w uReps x.Reps fReps) (h1 : g 1 = some (.int .i64 x.Term)) (s1 : I64 x.Term) (h2 : g 2 = some (.int .i64 x.Lead)) (s2 : I64 x.Lead) : Cod.group.rd w g x (fReps ++ []) :=
  ⟨fReps, [], rfl, ⟨uReps, h0, r0⟩, ⟨[], [], rfl, ⟨h1, s1, rfl⟩, ⟨h2, s2, rfl⟩⟩⟩

theorem at_group {w : World} {g o : Nat} {x : GroupD} (h : At Cod.group w g o x) : (∃ u, w.cell? ⟨g, o, none⟩ = some u ∧ Rd (Cod.replica) w u x.Reps) ∧ w.cell? ⟨g, o + 1, none⟩ = some (.int .i64 x.Term) ∧ w.cell? ⟨g, o + 2, none⟩ = some (.int .i64 x.Lead) ∧ I64 x.Term ∧ I64 x.Lead := by
  obtain ⟨f, h⟩ := h
  exact rd_group h

def costGroup (x : GroupD) : Nat := costReplicaS x.Reps
def costGroupS (l : List GroupD) : Nat := l.length + sumC costGroup l

/-- Letter -/
structure LetterD where
  From : Int
  To : Int
  Due : Int
  Body : ByteArray

def Cod.letter : Cod LetterD := Cod.via (Cod.pair (Cod.int) (Cod.pair (Cod.int) (Cod.pair (Cod.int) (Cod.str)))) (fun x => (x.From, x.To, x.Due, x.Body))

theorem rd_letter {w : World} {g : Nat → Option Value} {x : LetterD} {fp : List Nat} (h : Cod.letter.rd w g x fp) : g 0 = some (.int .i64 x.From) ∧ g 1 = some (.int .i64 x.To) ∧ g 2 = some (.int .i64 x.Due) ∧ g 3 = some (.string x.Body) ∧ I64 x.From ∧ I64 x.To ∧ I64 x.Due ∧ x.Body.size ≤ maxLen := by
  obtain ⟨_, _, _, ⟨h0, s0, _⟩, ⟨_, _, _, ⟨h1, s1, _⟩, ⟨_, _, _, ⟨h2, s2, _⟩, ⟨h3, s3, _⟩⟩⟩⟩ := h
  exact ⟨h0, h1, h2, h3, s0, s1, s2, s3⟩

theorem mk_letter {w : World} {g : Nat → Option Value} {x : LetterD} (h0 : g 0 = some (.int .i64 x.From)) (s0 : I64 x.From) (h1 : g 1 = some (.int .i64 x.To)) (s1 : I64 x.To) (h2 : g 2 = some (.int .i64 x.Due)) (s2 : I64 x.Due) (h3 : g 3 = some (.string x.Body)) (s3 : x.Body.size ≤ maxLen) : Cod.letter.rd w g x [] :=
  ⟨[], [], rfl, ⟨h0, s0, rfl⟩, ⟨[], [], rfl, ⟨h1, s1, rfl⟩, ⟨[], [], rfl, ⟨h2, s2, rfl⟩, ⟨h3, s3, rfl⟩⟩⟩⟩

theorem at_letter {w : World} {g o : Nat} {x : LetterD} (h : At Cod.letter w g o x) : w.cell? ⟨g, o, none⟩ = some (.int .i64 x.From) ∧ w.cell? ⟨g, o + 1, none⟩ = some (.int .i64 x.To) ∧ w.cell? ⟨g, o + 2, none⟩ = some (.int .i64 x.Due) ∧ w.cell? ⟨g, o + 3, none⟩ = some (.string x.Body) ∧ I64 x.From ∧ I64 x.To ∧ I64 x.Due ∧ x.Body.size ≤ maxLen := by
  obtain ⟨f, h⟩ := h
  exact rd_letter h

def costLetter (x : LetterD) : Nat := x.Body.size
def costLetterS (l : List LetterD) : Nat := l.length + sumC costLetter l


end Go.Proofs.YtpiheobpobclgaaGreatDoor


/- Slices whose room is known: an append of one element, in place or not. Plain lemmas over any program. -/
namespace Go.Proofs.YtpiheobpobclgaaGreatDoor
open Go.RowKit

namespace Cod
/-- What a slice value reads as, its room known. -/
def rdR {α : Type} (c : Cod α) (w : World) (v : Value) (xs : List α) (fp : List Nat) : Prop :=
  (v = .slice none 0 0 ∧ xs = [] ∧ fp = []) ∨ ∃ b off cap fs cur e, v = .slice (some ⟨b, off, none⟩) xs.length cap ∧ xs.length ≤ cap ∧ cap ≤ maxLen ∧ fp = b :: fs.flatten ∧ w.heap[b]? = some (.cells cur e (0, 0)) ∧ off + cap * c.size ≤ cur.size ∧ elems c w b off xs fs

theorem rdR_rdS {α : Type} {c : Cod α} {w : World} {v : Value} {xs : List α} {fp : List Nat} (h : rdR c w v xs fp) : rdS c w v xs fp := by
  rcases h with ⟨rfl, rfl, rfl⟩ | ⟨b, off, cap, fs, cur, e, rfl, h1, h2, rfl, h3, _, h5⟩
  · exact ⟨none, 0, rfl, Nat.le_refl _, Nat.zero_le _, fun _ => rfl, Or.inl ⟨rfl, rfl⟩⟩
  · exact ⟨_, cap, rfl, h1, h2, (fun h => by cases h), Or.inr ⟨b, off, fs, rfl, rfl, (Array.getElem?_eq_some_iff.1 h3).1, h5⟩⟩

theorem rdR_frame {α : Type} (c : Cod α) {w w' : World} {v : Value} {xs : List α} {fp : List Nat} (hf : ∀ k ∈ fp, w'.heap[k]? = w.heap[k]?) (h : rdR c w v xs fp) : rdR c w' v xs fp := by
  rcases h with h | ⟨b, off, cap, fs, cur, e, rfl, h1, h2, rfl, h3, h4, h5⟩
  · exact Or.inl h
  · have hb := hf b List.mem_cons_self
    exact Or.inr ⟨b, off, cap, fs, cur, e, rfl, h1, h2, rfl, hb.trans h3, h4, elems_frame c hb (fun k hk => hf k (List.mem_cons_of_mem _ hk)) h5⟩

/-- A slice whose room is known: one cell. -/
def sliceR {α : Type} (c : Cod α) : Cod (List α) where
  size := 1
  rd w g xs fp := ∃ v, g 0 = some v ∧ rdR c w v xs fp
  ext h := fun ⟨v, a, b⟩ => ⟨v, (h 0 (Nat.lt_succ_self 0)) ▸ a, b⟩
  frame hf := fun ⟨v, a, b⟩ => ⟨v, a, rdR_frame c hf b⟩
  old := fun ⟨_, _, b⟩ => rdS_old c (rdR_rdS b)

def replicaR : Cod ReplicaD := Cod.via (Cod.pair (Cod.bool) (Cod.pair (Cod.sliceR Cod.entry) (Cod.int))) (fun x => (x.Up, x.Log, x.Sure))
end Cod

theorem replicaR_weak {w : World} {g : Nat → Option Value} {x : ReplicaD} {f : List Nat} (h : Cod.replicaR.rd w g x f) : Cod.replica.rd w g x f := by
  obtain ⟨f1, f2, e, h1, f3, f4, e2, ⟨v, hv, hr⟩, h3⟩ := h
  exact ⟨f1, f2, e, h1, f3, f4, e2, ⟨v, hv, Cod.rdR_rdS hr⟩, h3⟩

theorem elems_weak {α : Type} {c c' : Cod α} (hs : c'.size = c.size) (h : ∀ {w : World} {g : Nat → Option Value} {x : α} {f : List Nat}, c'.rd w g x f → c.rd w g x f) {w : World} {b : Nat} :
    ∀ {off : Nat} {xs : List α} {fs : List (List Nat)}, Cod.elems c' w b off xs fs → Cod.elems c w b off xs fs
  | _, [], [], _ => trivial
  | _, [], _ :: _, k => k
  | _, _ :: _, [], k => k
  | off, x :: xs, f :: fs, ⟨h1, h2⟩ => ⟨h h1, by rw [← hs]; exact elems_weak hs h h2⟩

theorem rdS_weak {α : Type} {c c' : Cod α} (hs : c'.size = c.size) (h : ∀ {w : World} {g : Nat → Option Value} {x : α} {f : List Nat}, c'.rd w g x f → c.rd w g x f) {w : World} {v : Value} {xs : List α} {fp : List Nat} (k : Cod.rdS c' w v xs fp) : Cod.rdS c w v xs fp := by
  obtain ⟨a, cap, hv, h1, h2, h3, h4⟩ := k
  refine ⟨a, cap, hv, h1, h2, h3, ?_⟩
  rcases h4 with h4 | ⟨b, off, fs, ha, hfp, hb, he⟩
  · exact Or.inl h4
  · exact Or.inr ⟨b, off, fs, ha, hfp, hb, elems_weak hs h he⟩

theorem own_weakR {w : World} {base : Nat} {v : Value} {xs : List ReplicaD} (h : Own Cod.replicaR w base v xs) : Own Cod.replica w base v xs := by
  obtain ⟨fp, h, m⟩ := h
  exact ⟨fp, rdS_weak (c := Cod.replica) (c' := Cod.replicaR) rfl replicaR_weak h, m⟩
theorem rd_weakR {w : World} {v : Value} {xs : List ReplicaD} (h : Rd Cod.replicaR w v xs) : Rd Cod.replica w v xs := by
  obtain ⟨fp, h⟩ := h
  exact ⟨fp, rdS_weak (c := Cod.replica) (c' := Cod.replicaR) rfl replicaR_weak h⟩

/-- A slice of the call's own, its room known. -/
def OwnR {α : Type} (c : Cod α) (w : World) (base : Nat) (v : Value) (xs : List α) : Prop := ∃ fp, Cod.rdR c w v xs fp ∧ Mine w base fp
theorem OwnR.own {α : Type} {c : Cod α} {w : World} {base : Nat} {v : Value} {xs : List α} (h : OwnR c w base v xs) : Own c w base v xs := by
  obtain ⟨fp, h, m⟩ := h
  exact ⟨fp, Cod.rdR_rdS h, m⟩
theorem OwnR.mono {α : Type} {c : Cod α} {w : World} {base base' : Nat} {v : Value} {xs : List α} (h : OwnR c w base v xs) (k : base' ≤ base) : OwnR c w base' v xs := by
  obtain ⟨fp, h, m⟩ := h
  exact ⟨fp, h, m.mono k⟩
theorem OwnR.form {α : Type} {c : Cod α} {w : World} {base : Nat} {v : Value} {xs : List α} (h : OwnR c w base v xs) : ∃ p cap, v = .slice p xs.length cap := h.own.form

theorem PartC.ownR {α : Type} {c : Cod α} {w : World} {base : Nat} {e : TypeId} {v : Value} {n : Nat} {xs : List α} {cells : List Value} (h : PartC c w base e v n xs cells) (hn : xs.length = n) : OwnR c w base v xs := by
  obtain ⟨fs, ho, _, hf, hr, hm, hlt, hb⟩ := h
  subst hn
  rcases ho.2 with ⟨rfl, h0⟩ | ⟨g, cap, cur, rfl, hg, hgb, hc1, hc2, hc3, _⟩
  · have hx : xs = [] := List.eq_nil_of_length_eq_zero h0
    subst hx
    exact ⟨[], Or.inl ⟨rfl, rfl, rfl⟩, Mine.nil _ _⟩
  · refine ⟨g :: fs.flatten, Or.inr ⟨g, 0, cap, fs, cur, e, rfl, hc1, hc2, rfl, hgb, by omega, Cod.elems_of c hf fun k hk f hkf => ?_⟩, ?_⟩
    · refine c.ext (fun i hi => ?_) (hr k hk f hkf)
      show _ = w.cell? ⟨g, 0 + k * c.size + i, none⟩
      rw [Nat.zero_add, ho.cellAt _ (idx_lt hk hi)]
    · refine ⟨List.nodup_cons.2 ⟨hb g rfl, hm.nodup⟩, fun b hb' => ?_, fun b hb' o => ?_⟩
      · rcases List.mem_cons.1 hb' with rfl | hb'
        · exact hg
        · exact hm.low b hb'
      · rcases List.mem_cons.1 hb' with rfl | hb'
        · exact ho.frozenAt o
        · exact hm.free b hb' o
theorem Part.ownR {α : Type} {c : Cod α} {w : World} {base : Nat} {e : TypeId} {v : Value} {n : Nat} {xs : List α} (h : Part c w base e v n xs) (hn : xs.length = n) : OwnR c w base v xs := by
  obtain ⟨cells, h⟩ := h
  exact h.ownR hn

end Go.Proofs.YtpiheobpobclgaaGreatDoor


/- A row that is being built, or nothing yet in a slice without room. Plain lemmas over any program. -/
namespace Go.Proofs.YtpiheobpobclgaaGreatDoor
open Go.RowKit

theorem ownsRow_le {w : World} {base base' size n : Nat} {e : TypeId} {v : Value} {xs : List Value} (h : w.ownsRow base e size v n xs) (hb : base' ≤ base) : w.ownsRow base' e size v n xs := by
  refine ⟨h.1, ?_⟩
  rcases h.2 with h0 | ⟨g, cap, cur, hv, hg, hr⟩
  · exact Or.inl h0
  · exact Or.inr ⟨g, cap, cur, hv, Nat.le_trans hb hg, hr⟩

section
variable {α : Type} {c : Cod α} {w w' : World}

theorem PartC.keep {base : Nat} {e : TypeId} {v : Value} {n : Nat} {xs : List α} {cells : List Value} (h : PartC c w base e v n xs cells) (k : Keep base w w') : PartC c w' base e v n xs cells := by
  obtain ⟨fs, ho, hl, hf, hr, hm, hlt, hb⟩ := h
  have hin : ∀ (j : Nat) (f : List Nat), fs[j]? = some f → ∀ b ∈ f, b ∈ fs.flatten := fun j f hf b hb => List.mem_flatten.2 ⟨f, List.mem_of_getElem? hf, hb⟩
  refine ⟨fs, ⟨ho.1, ?_⟩, hl, hf, fun j hj f hf => c.frame (fun b hb => k.block b (hm.low b (hin j f hf b hb)) (hlt b (hin j f hf b hb))) (hr j hj f hf), hm.frame (fun b hb => k.block b (hm.low b hb) (hlt b hb)), fun b hb => Nat.lt_of_lt_of_le (hlt b hb) k.size, hb⟩
  rcases ho.2 with h0 | ⟨g, cap, cur, hv, hg, hgb, rest⟩
  · exact Or.inl h0
  · exact Or.inr ⟨g, cap, cur, hv, hg, (k.block g hg (Array.getElem?_eq_some_iff.1 hgb).1).trans hgb, rest⟩

theorem PartC.row_lt {base : Nat} {e : TypeId} {v : Value} {n : Nat} {xs : List α} {cells : List Value} (h : PartC c w base e v n xs cells) : ∀ b, v.ownBlock = some b → b < w.heap.size := fun b hb => by
  obtain ⟨fs, ho, _⟩ := h
  exact (ho.lt b hb).2

def PartV (c : Cod α) (w : World) (base : Nat) (e : TypeId) (v : Value) (n : Nat) (xs : List α) : Prop := (∃ p, v = .slice p 0 0 ∧ n = 0 ∧ xs = []) ∨ Part c w base e v n xs

theorem PartV.keep {base : Nat} {e : TypeId} {v : Value} {n : Nat} {xs : List α} (h : PartV c w base e v n xs) (k : Keep base w w') : PartV c w' base e v n xs := by
  rcases h with h | ⟨cells, h⟩
  · exact Or.inl h
  · exact Or.inr ⟨cells, h.keep k⟩
theorem PartV.below {base : Nat} {e : TypeId} {v : Value} {n : Nat} {xs : List α} (h : PartV c w base e v n xs) (k : Below w.heap.size w w') : PartV c w' base e v n xs := by
  rcases h with h | h
  · exact Or.inl h
  · exact Or.inr (h.below k)
theorem PartV.own {base : Nat} {e : TypeId} {v : Value} {n : Nat} {xs : List α} (h : PartV c w base e v n xs) (hn : xs.length = n) : Own c w base v xs := by
  rcases h with ⟨p, rfl, rfl, rfl⟩ | h
  · exact ⟨[], ⟨p, 0, rfl, Nat.le_refl _, Nat.zero_le _, fun _ => rfl, Or.inl ⟨rfl, rfl⟩⟩, Mine.nil _ _⟩
  · exact h.own hn
end

section
variable {P : Program} {ops : Array Oper} {o : Oper} {a : Act} {Q : Exit → Act → World → Prop} {α : Type} {c : Cod α}

theorem step_append_keep {K : Act → World → Prop} {E : Prop} (Wp : World) (hgd : o.guard = none) (s x : Operand) (t : TypeId) (ho : o.op = .call { callee := .builtin .append, args := #[s, x], argTypes := #[t, t] })
    (base : Nat) (e e' : TypeId) (i : TypeInfo) (z : Value) (bytes : Nat) (ht : P.underlying t = some (.slice e)) (hi : P.info? e = some i) (hz : i.zero = some z)
    (hsize : i.size = c.size) (hby : i.bytes = bytes) (hzs : z.cells.size = c.size) (hsz : 0 < c.size) (hbp : 0 < bytes)
    (w0 : World) (v : Value) (n : Nat) (xs : List α) (cells : List Value) (hs : a.eval s = v) (hp : PartC c w0 base e v n xs cells) (hlen : xs.length = n) (k : Below w0.heap.size w0 Wp)
    (y : α) (f : List Nat) (cs : List Value) (hcl : cs.length = c.size) (hrd : c.rd Wp (lst cs) y f) (hm : Mine Wp w0.heap.size f)
    (H : Nat) (hH : Wp.heap.size = H) (hx : a.eval x = .slice (some ⟨H, 0, none⟩) 1 1) (h1 : ∀ u ∈ cs, u.oneCell' = true)
    (hbytes : (n + 1) * bytes ≤ room) (hbase : base ≤ w0.heap.size)
    (h : ∀ g cap w', Part c w' base e (.slice (some ⟨g, 0, none⟩) (n + 1) cap) (n + 1) (xs ++ [y]) → Below base Wp w' → Keep w0.heap.size (Wp.alloc (.cells cs.toArray e')) w' → K (a.put o.dst (.slice (some ⟨g, 0, none⟩) (n + 1) cap)) w') :
    if Region.wanted o (yielded ops a.tmps) = true then Oper.wp P o a (Wp.alloc (.cells cs.toArray e')) K Q else E := by
  subst hH
  obtain ⟨fs, hown, _⟩ := id (hp.below k)
  refine step_append_lies _ hgd s x t ho base e i z c.size bytes ht hi hz hsize hby hzs hsz v n cells hs (hown.alloc _) ⟨Wp.heap.size, 0, none⟩ 1 1 cs hx (by omega) ?_ h1 (by decide) ?_ hbytes (by have := k.size; simp; omega) _ rfl ?_
  · intro j u hj
    rw [WideShapes.add_plain, Nat.zero_add, World.cell?_alloc_mark]
    simpa using hj
  · have h2 : (n + 1) * 1 ≤ (n + 1) * bytes := Nat.mul_le_mul_left _ hbp
    have h3 : (n + 1) * bytes ≤ room := hbytes
    unfold room at h3
    unfold maxLen
    omega
  · intro g cap w' hown' hg hat _
    have k2 : Below w0.heap.size w0 (Wp.alloc (.cells cs.toArray e')) := below_alloc _ k
    have hrd2 : c.rd (Wp.alloc (.cells cs.toArray e')) (lst cs) y f := c.frame (fun b hb => Below.heap_alloc _ _ _ (c.old hrd b hb)) hrd
    have hm2 : Mine (Wp.alloc (.cells cs.toArray e')) w0.heap.size f := hm.frame fun b hb => Below.heap_alloc _ _ _ (c.old hrd b hb)
    refine h g cap w' (hp.snoc k2 hrd2 hm2 hlen hown' hg rfl ?_ hbase) ?_ ⟨hg.size, fun b h1 h2 => hg.block b h2 (fun e => by have := (hown.lt b e.symm).2; have := (hp.row_lt b e.symm); omega)⟩
    · rcases hat with hat | hat
      · exact Or.inl hat
      · exact Or.inr (Nat.le_of_eq hat.symm)
    · have hg' : Wp.grownBy w' v.ownBlock := ⟨hg.os, hg.tape, hg.output, Nat.le_trans (by simp) hg.size, fun j hj hne => by
        rw [hg.block j (by simp; omega) hne]
        exact Below.heap_alloc _ _ _ hj⟩
      exact Below.grown (Below.refl _ _) hg' (Nat.le_trans hbase k.size) fun j hj => (hown.lt j hj).1

theorem step_append_partK {K : Act → World → Prop} {E : Prop} (Wp : World) (hgd : o.guard = none) (s x : Operand) (t : TypeId) (ho : o.op = .call { callee := .builtin .append, args := #[s, x], argTypes := #[t, t] })
    (base : Nat) (e e' : TypeId) (i : TypeInfo) (z : Value) (bytes : Nat) (ht : P.underlying t = some (.slice e)) (hi : P.info? e = some i) (hz : i.zero = some z)
    (hsize : i.size = c.size) (hby : i.bytes = bytes) (hzs : z.cells.size = c.size) (hsz : 0 < c.size) (hbp : 0 < bytes)
    (w0 : World) (v : Value) (n : Nat) (xs : List α) (hs : a.eval s = v) (hp : PartV c w0 base e v n xs) (hlen : xs.length = n) (k : Below w0.heap.size w0 Wp)
    (y : α) (f : List Nat) (cs : List Value) (hcl : cs.length = c.size) (hrd : c.rd Wp (lst cs) y f) (hm : Mine Wp w0.heap.size f)
    (H : Nat) (hH : Wp.heap.size = H) (hx : a.eval x = .slice (some ⟨H, 0, none⟩) 1 1) (h1 : ∀ u ∈ cs, u.oneCell' = true)
    (hbytes : (n + 1) * bytes ≤ room) (hbase : base ≤ w0.heap.size)
    (h : ∀ g cap w', Part c w' base e (.slice (some ⟨g, 0, none⟩) (n + 1) cap) (n + 1) (xs ++ [y]) → Below base Wp w' → Keep w0.heap.size (Wp.alloc (.cells cs.toArray e')) w' → K (a.put o.dst (.slice (some ⟨g, 0, none⟩) (n + 1) cap)) w') :
    if Region.wanted o (yielded ops a.tmps) = true then Oper.wp P o a (Wp.alloc (.cells cs.toArray e')) K Q else E := by
  rcases hp with ⟨p, rfl, rfl, rfl⟩ | ⟨cells, hp⟩
  · subst hH
    have hz2 : Wp.heap.size + 1 = (Wp.alloc (.cells cs.toArray e')).heap.size := by simp
    have k2 : Below w0.heap.size w0 (Wp.alloc (.cells cs.toArray e')) := below_alloc _ k
    have hrd2 : c.rd (Wp.alloc (.cells cs.toArray e')) (lst cs) y f := c.frame (fun b hb => Below.heap_alloc _ _ _ (c.old hrd b hb)) hrd
    have hm2 : Mine (Wp.alloc (.cells cs.toArray e')) w0.heap.size f := hm.frame fun b hb => Below.heap_alloc _ _ _ (c.old hrd b hb)
    have hks := k2.size
    cases p with
    | none =>
      exact step_append_keep (c := c) Wp hgd s x t ho base e e' i z bytes ht hi hz hsize hby hzs hsz hbp w0 (.slice none 0 0) 0 [] [] hs (part_start (World.ownsRow_nil _ _ _ _)) rfl k y f cs hcl hrd hm _ rfl hx h1 hbytes hbase h
    | some ad =>
      refine step_append_grows hgd s x t ho e i z c.size bytes ht hi hz hsize hby hzs hsz (some ad) 0 0 [] hs (fun h => by cases h) (by simp) (fun b _ j u hj => by simp at hj) ⟨Wp.heap.size, 0, none⟩ 1 1 cs hx (by omega) ?_ h1 (by omega) (by decide) hbytes ?_
      · intro j u hj
        rw [WideShapes.add_plain, Nat.zero_add, World.cell?_alloc_mark]
        simpa using hj
      · intro v' w' hown hg
        rcases own_forms hown with ⟨_, h0⟩ | ⟨g, cap, rfl⟩
        · omega
        · have hlt := hown.lt g rfl
          have hown' := ownsRow_le hown (base' := base) (by omega)
          have hP := PartC.snoc (c := c) (v := .slice none 0 0) (n := 0) (xs := []) (cells := []) (base := base) (e := e) (part_start (World.ownsRow_nil w0 base e c.size)) k2 hrd2 hm2 rfl (w2 := w') (v' := .slice (some ⟨g, 0, none⟩) (0 + 1) cap) (g' := g) (vs := cs) hown' hg rfl (Or.inr hlt.1) hbase
          refine h g cap w' hP ?_ ⟨hg.size, fun b h1 h2 => hg.block b h2 (fun e => by cases e)⟩
          have hg' : Wp.grownBy w' none := ⟨hg.os, hg.tape, hg.output, Nat.le_trans (by simp) hg.size, fun j hj hne => by
            rw [hg.block j (by simp; omega) hne]
            exact Below.heap_alloc _ _ _ hj⟩
          exact ⟨hg'.os, hg'.tape, hg'.output, hg'.size, fun j hj => hg'.block j (by have := k.size; omega) (fun e => by cases e)⟩
  · exact step_append_keep (c := c) Wp hgd s x t ho base e e' i z bytes ht hi hz hsize hby hzs hsz hbp w0 v n xs cells hs hp hlen k y f cs hcl hrd hm H hH hx h1 hbytes hbase h

end
end Go.Proofs.YtpiheobpobclgaaGreatDoor


/- Parts of a slice that came in. Plain lemmas; no program. -/
namespace Go.Proofs.YtpiheobpobclgaaGreatDoor
open Go.RowKit

theorem Rd.take {α : Type} {c : Cod α} {w : World} {p : Option Addr} {n cap : Nat} {l : List α} (h : Rd c w (.slice p n cap) l) (k : Nat) (hk : k ≤ l.length) : Rd c w (.slice p k cap) (l.take k) := by
  obtain ⟨fp, a, cap', e, h1, h2, h3, h4⟩ := h
  injection e with e1 e2 e3
  subst e1 e2 e3
  have hl : (l.take k).length = k := by rw [List.length_take]; omega
  rcases h4 with ⟨rfl, rfl⟩ | ⟨b, off, fs, rfl, rfl, hb, he⟩
  · refine ⟨[], p, cap, by rw [hl], by simp, h2, h3, Or.inl ⟨by simp, rfl⟩⟩
  · refine ⟨b :: (fs.take k).flatten, _, cap, by rw [hl], by omega, h2, h3, Or.inr ⟨b, off, fs.take k, rfl, rfl, hb, Cod.elems_of c ?_ fun j hj f hf => ?_⟩⟩
    · rw [List.length_take, List.length_take, Cod.elems_length c he]
    · rw [hl] at hj
      obtain ⟨f', hf', hr⟩ := Cod.elems_at c he j (by omega)
      rw [List.getElem?_take_of_lt hj, hf'] at hf
      injection hf with hf
      subst hf
      rw [List.getElem_take]
      exact hr

theorem Rd.len {α : Type} {c : Cod α} {w : World} {p : Option Addr} {n cap : Nat} {l : List α} (h : Rd c w (.slice p n cap) l) : l.length = n := by
  obtain ⟨fp, a, cap', e, _⟩ := h
  injection e with _ e2 _
  exact e2.symm

theorem Rd.dropLe {α : Type} {c : Cod α} {w : World} {g o n cap : Nat} {l : List α} (h : Rd c w (.slice (some ⟨g, o, none⟩) n cap) l) (k : Nat) (hk : k ≤ l.length) :
    Rd c w (.slice (some ⟨g, o + k * c.size, none⟩) (n - k) (cap - k)) (l.drop k) := by
  obtain ⟨fp, a, cap', e, h1, h2, h3, h4⟩ := h
  injection e with e1 e2 e3
  subst e1 e2 e3
  have hl : (l.drop k).length = l.length - k := by rw [List.length_drop]
  rcases h4 with ⟨rfl, rfl⟩ | ⟨b, off, fs, e, rfl, hb, he⟩
  · exact ⟨[], _, cap - k, by rw [hl], by simp, by omega, (fun h => by cases h), Or.inl ⟨by simp, rfl⟩⟩
  · injection e with e
    injection e with e1 e2
    subst e1 e2
    refine ⟨g :: (fs.drop k).flatten, _, cap - k, by rw [hl], by omega, by omega, (fun h => by cases h), Or.inr ⟨g, o + k * c.size, fs.drop k, rfl, rfl, hb, Cod.elems_of c ?_ fun j hj f hf => ?_⟩⟩
    · rw [List.length_drop, List.length_drop, Cod.elems_length c he]
    · rw [hl] at hj
      obtain ⟨f', hf', hr⟩ := Cod.elems_at c he (k + j) (by omega)
      rw [List.getElem?_drop, hf'] at hf
      injection hf with hf
      subst hf
      rw [List.getElem_drop]
      rw [show o + k * c.size + j * c.size = o + (k + j) * c.size from by rw [Nat.add_mul]; omega]
      exact hr

theorem Rd.drop_end {α : Type} {c : Cod α} {w : World} {p : Option Addr} {cap : Nat} (hp : p = none → cap = 0) (hc : cap ≤ maxLen) : Rd c w (.slice p 0 cap) [] :=
  ⟨[], p, cap, rfl, Nat.zero_le _, hc, hp, Or.inl ⟨rfl, rfl⟩⟩

end Go.Proofs.YtpiheobpobclgaaGreatDoor


/- A list, or none. Printed by mkfresh.py. -/
namespace Go.Proofs.YtpiheobpobclgaaGreatDoor
open Go.RowKit

def pickL {α : Type} : Bool → List α → List α
  | true, l => l
  | false, _ => []
theorem own_nil {α : Type} (c : Cod α) (w : World) (base : Nat) : Own c w base (.slice none 0 0) (pickL false ([] : List α)) := ⟨[], ⟨none, 0, rfl, Nat.le_refl _, Nat.zero_le _, fun _ => rfl, Or.inl ⟨rfl, rfl⟩⟩, Mine.nil _ _⟩
theorem pick_costString (q : Bool) (l : List ByteArray) : costStringS (pickL q l) ≤ costStringS l := by
  cases q
  · show costStringS [] ≤ _
    unfold costStringS
    simp [sumC]
  · exact Nat.le_refl _
theorem pick_costWrite (q : Bool) (l : List WriteD) : costWriteS (pickL q l) ≤ costWriteS l := by
  cases q
  · show costWriteS [] ≤ _
    unfold costWriteS
    simp [sumC]
  · exact Nat.le_refl _
theorem pick_costVer (q : Bool) (l : List VerD) : costVerS (pickL q l) ≤ costVerS l := by
  cases q
  · show costVerS [] ≤ _
    unfold costVerS
    simp [sumC]
  · exact Nat.le_refl _
theorem pick_costOp (q : Bool) (l : List OpD) : costOpS (pickL q l) ≤ costOpS l := by
  cases q
  · show costOpS [] ≤ _
    unfold costOpS
    simp [sumC]
  · exact Nat.le_refl _
theorem pick_costCell (q : Bool) (l : List CellD) : costCellS (pickL q l) ≤ costCellS l := by
  cases q
  · show costCellS [] ≤ _
    unfold costCellS
    simp [sumC]
  · exact Nat.le_refl _

end Go.Proofs.YtpiheobpobclgaaGreatDoor

