/- The program's data types as Lean data. Printed by mkdata.py. -/
import Derived.Test.YtkiebgmcjkfpaaaKit
import Derived.Test.YtkiebgmcjkfpaaaCore
namespace Go.Proofs.Ytkiebgmcjkfpaaa
open Go.RowKit Go.ChangeShapes Go.WideShapes

/-- The sum of a size over a list. -/
def sumC {α : Type} (f : α → Nat) (l : List α) : Nat := (l.map f).sum
theorem sumC_take {α : Type} (f : α → Nat) (l : List α) (k : Nat) (h : k < l.length) : sumC f (l.take (k + 1)) = sumC f (l.take k) + f l[k] := by
  unfold sumC
  rw [List.take_succ_eq_append_getElem h]
  simp only [List.map_append, List.map_cons, List.map_nil, List.sum_append, List.sum_cons, List.sum_nil, Nat.add_zero]
theorem sumC_le {α : Type} (f : α → Nat) (l : List α) (k : Nat) : sumC f (l.take k) ≤ sumC f l := by
  unfold sumC
  conv => rhs; rw [← List.take_append_drop k l]
  simp only [List.map_append, List.sum_append]
  omega
theorem sumC_get {α : Type} (f : α → Nat) (l : List α) (k : Nat) (h : k < l.length) : f l[k] ≤ sumC f l := by
  have h1 := sumC_take f l k h
  have h2 := sumC_le f l (k + 1)
  omega

/-- What a function that measures says: less than nothing, or how much is left. -/
def SzP (n : Nat) (left : Int) (w : World) (e : Ending) (w' : World) : Prop :=
  Below w.heap.size w w' ∧ ((e = .returned (.int .i64 (left - (n : Int))) ∧ 0 ≤ left - (n : Int)) ∨ (e = .returned (.int .i64 (-1)) ∧ left - (n : Int) < 0))

def costStringS (l : List ByteArray) : Nat := l.length + sumC (fun s => s.size) l
/-- A whole number of 64 bits. -/
def I64 (x : Int) : Prop := -9223372036854775808 ≤ x ∧ x ≤ 9223372036854775807

/-- Span -/
structure SpanD where
  Low : Int
  High : Int

def Cod.span : Cod SpanD := Cod.via (Cod.pair (Cod.int) (Cod.int)) (fun x => (x.Low, x.High))

theorem rd_span {w : World} {g : Nat → Option Value} {x : SpanD} {fp : List Nat} (h : Cod.span.rd w g x fp) : g 0 = some (.int .i64 x.Low) ∧ g 1 = some (.int .i64 x.High) ∧ I64 x.Low ∧ I64 x.High := by
  obtain ⟨_, _, _, ⟨h0, s0, _⟩, ⟨h1, s1, _⟩⟩ := h
  exact ⟨h0, h1, s0, s1⟩

theorem mk_span {w : World} {g : Nat → Option Value} {x : SpanD} (h0 : g 0 = some (.int .i64 x.Low)) (s0 : I64 x.Low) (h1 : g 1 = some (.int .i64 x.High)) (s1 : I64 x.High) : Cod.span.rd w g x [] :=
  ⟨[], [], rfl, ⟨h0, s0, rfl⟩, ⟨h1, s1, rfl⟩⟩

theorem at_span {w : World} {g o : Nat} {x : SpanD} (h : At Cod.span w g o x) : w.cell? ⟨g, o, none⟩ = some (.int .i64 x.Low) ∧ w.cell? ⟨g, o + 1, none⟩ = some (.int .i64 x.High) ∧ I64 x.Low ∧ I64 x.High := by
  obtain ⟨f, h⟩ := h
  exact rd_span h

def costSpanS (l : List SpanD) : Nat := l.length

theorem opensStringS {H : Type} {enc : TypeId × Value → H} {w : World} : Opens enc Try.prog w (Cod.slice Cod.str) 40 := opens_slice Try.underlying40 (by kernel_rfl) opensStr (by decide)

/-- Write -/
structure WriteD where
  Key : ByteArray
  Val : ByteArray
  Gone : Bool

def Cod.write : Cod WriteD := Cod.via (Cod.pair (Cod.str) (Cod.pair (Cod.str) (Cod.bool))) (fun x => (x.Key, x.Val, x.Gone))

theorem rd_write {w : World} {g : Nat → Option Value} {x : WriteD} {fp : List Nat} (h : Cod.write.rd w g x fp) : g 0 = some (.string x.Key) ∧ g 1 = some (.string x.Val) ∧ g 2 = some (.bool x.Gone) ∧ x.Key.size ≤ maxLen ∧ x.Val.size ≤ maxLen := by
  obtain ⟨_, _, _, ⟨h0, s0, _⟩, ⟨_, _, _, ⟨h1, s1, _⟩, ⟨h2, s2, _⟩⟩⟩ := h
  exact ⟨h0, h1, h2, s0, s1⟩

theorem mk_write {w : World} {g : Nat → Option Value} {x : WriteD} (h0 : g 0 = some (.string x.Key)) (s0 : x.Key.size ≤ maxLen) (h1 : g 1 = some (.string x.Val)) (s1 : x.Val.size ≤ maxLen) (h2 : g 2 = some (.bool x.Gone)) : Cod.write.rd w g x [] :=
  ⟨[], [], rfl, ⟨h0, s0, rfl⟩, ⟨[], [], rfl, ⟨h1, s1, rfl⟩, ⟨h2, trivial, rfl⟩⟩⟩

theorem at_write {w : World} {g o : Nat} {x : WriteD} (h : At Cod.write w g o x) : w.cell? ⟨g, o, none⟩ = some (.string x.Key) ∧ w.cell? ⟨g, o + 1, none⟩ = some (.string x.Val) ∧ w.cell? ⟨g, o + 2, none⟩ = some (.bool x.Gone) ∧ x.Key.size ≤ maxLen ∧ x.Val.size ≤ maxLen := by
  obtain ⟨f, h⟩ := h
  exact rd_write h

def costWrite (x : WriteD) : Nat := x.Key.size + x.Val.size
def costWriteS (l : List WriteD) : Nat := l.length + sumC costWrite l

theorem opensWrite {H : Type} {enc : TypeId × Value → H} {w : World} : Opens enc Try.prog w Cod.write 79 :=
  Opens.via (opens_struct Try.underlying79 (by kernel_rfl) (opensF_cons opensStr rfl (opensF_cons opensStr rfl (opensF_one opensBool rfl)))) _ (fun (a0, a1, a2) => ⟨a0, a1, a2⟩) (fun _ => rfl)

theorem opensWriteS {H : Type} {enc : TypeId × Value → H} {w : World} : Opens enc Try.prog w (Cod.slice Cod.write) 22 := opens_slice Try.underlying22 (by kernel_rfl) opensWrite (by decide)

/-- Ver -/
structure VerD where
  Time : Int
  Val : ByteArray
  Gone : Bool

def Cod.ver : Cod VerD := Cod.via (Cod.pair (Cod.int) (Cod.pair (Cod.str) (Cod.bool))) (fun x => (x.Time, x.Val, x.Gone))

theorem rd_ver {w : World} {g : Nat → Option Value} {x : VerD} {fp : List Nat} (h : Cod.ver.rd w g x fp) : g 0 = some (.int .i64 x.Time) ∧ g 1 = some (.string x.Val) ∧ g 2 = some (.bool x.Gone) ∧ I64 x.Time ∧ x.Val.size ≤ maxLen := by
  obtain ⟨_, _, _, ⟨h0, s0, _⟩, ⟨_, _, _, ⟨h1, s1, _⟩, ⟨h2, s2, _⟩⟩⟩ := h
  exact ⟨h0, h1, h2, s0, s1⟩

theorem mk_ver {w : World} {g : Nat → Option Value} {x : VerD} (h0 : g 0 = some (.int .i64 x.Time)) (s0 : I64 x.Time) (h1 : g 1 = some (.string x.Val)) (s1 : x.Val.size ≤ maxLen) (h2 : g 2 = some (.bool x.Gone)) : Cod.ver.rd w g x [] :=
  ⟨[], [], rfl, ⟨h0, s0, rfl⟩, ⟨[], [], rfl, ⟨h1, s1, rfl⟩, ⟨h2, trivial, rfl⟩⟩⟩

theorem at_ver {w : World} {g o : Nat} {x : VerD} (h : At Cod.ver w g o x) : w.cell? ⟨g, o, none⟩ = some (.int .i64 x.Time) ∧ w.cell? ⟨g, o + 1, none⟩ = some (.string x.Val) ∧ w.cell? ⟨g, o + 2, none⟩ = some (.bool x.Gone) ∧ I64 x.Time ∧ x.Val.size ≤ maxLen := by
  obtain ⟨f, h⟩ := h
  exact rd_ver h

def costVer (x : VerD) : Nat := x.Val.size
def costVerS (l : List VerD) : Nat := l.length + sumC costVer l

theorem opensVer {H : Type} {enc : TypeId × Value → H} {w : World} : Opens enc Try.prog w Cod.ver 166 :=
  Opens.via (opens_struct Try.underlying166 (by kernel_rfl) (opensF_cons opensInt rfl (opensF_cons opensStr rfl (opensF_one opensBool rfl)))) _ (fun (a0, a1, a2) => ⟨a0, a1, a2⟩) (fun _ => rfl)

theorem opensVerS {H : Type} {enc : TypeId × Value → H} {w : World} : Opens enc Try.prog w (Cod.slice Cod.ver) 87 := opens_slice Try.underlying87 (by kernel_rfl) opensVer (by decide)

/-- Op -/
structure OpD where
  Kind : Int
  Key : ByteArray
  Val : ByteArray
  By : Int

def Cod.op : Cod OpD := Cod.via (Cod.pair (Cod.int) (Cod.pair (Cod.str) (Cod.pair (Cod.str) (Cod.int)))) (fun x => (x.Kind, x.Key, x.Val, x.By))

theorem rd_op {w : World} {g : Nat → Option Value} {x : OpD} {fp : List Nat} (h : Cod.op.rd w g x fp) : g 0 = some (.int .i64 x.Kind) ∧ g 1 = some (.string x.Key) ∧ g 2 = some (.string x.Val) ∧ g 3 = some (.int .i64 x.By) ∧ I64 x.Kind ∧ x.Key.size ≤ maxLen ∧ x.Val.size ≤ maxLen ∧ I64 x.By := by
  obtain ⟨_, _, _, ⟨h0, s0, _⟩, ⟨_, _, _, ⟨h1, s1, _⟩, ⟨_, _, _, ⟨h2, s2, _⟩, ⟨h3, s3, _⟩⟩⟩⟩ := h
  exact ⟨h0, h1, h2, h3, s0, s1, s2, s3⟩

theorem mk_op {w : World} {g : Nat → Option Value} {x : OpD} (h0 : g 0 = some (.int .i64 x.Kind)) (s0 : I64 x.Kind) (h1 : g 1 = some (.string x.Key)) (s1 : x.Key.size ≤ maxLen) (h2 : g 2 = some (.string x.Val)) (s2 : x.Val.size ≤ maxLen) (h3 : g 3 = some (.int .i64 x.By)) (s3 : I64 x.By) : Cod.op.rd w g x [] :=
  ⟨[], [], rfl, ⟨h0, s0, rfl⟩, ⟨[], [], rfl, ⟨h1, s1, rfl⟩, ⟨[], [], rfl, ⟨h2, s2, rfl⟩, ⟨h3, s3, rfl⟩⟩⟩⟩

theorem at_op {w : World} {g o : Nat} {x : OpD} (h : At Cod.op w g o x) : w.cell? ⟨g, o, none⟩ = some (.int .i64 x.Kind) ∧ w.cell? ⟨g, o + 1, none⟩ = some (.string x.Key) ∧ w.cell? ⟨g, o + 2, none⟩ = some (.string x.Val) ∧ w.cell? ⟨g, o + 3, none⟩ = some (.int .i64 x.By) ∧ I64 x.Kind ∧ x.Key.size ≤ maxLen ∧ x.Val.size ≤ maxLen ∧ I64 x.By := by
  obtain ⟨f, h⟩ := h
  exact rd_op h

def costOp (x : OpD) : Nat := x.Key.size + x.Val.size
def costOpS (l : List OpD) : Nat := l.length + sumC costOp l

/-- Cell -/
structure CellD where
  Key : ByteArray
  Vers : List VerD

def Cod.cell : Cod CellD := Cod.via (Cod.pair (Cod.str) (Cod.slice Cod.ver)) (fun x => (x.Key, x.Vers))

theorem rd_cell {w : World} {g : Nat → Option Value} {x : CellD} {fp : List Nat} (h : Cod.cell.rd w g x fp) : g 0 = some (.string x.Key) ∧ (∃ u, g 1 = some u ∧ Rd (Cod.ver) w u x.Vers) ∧ x.Key.size ≤ maxLen := by
  obtain ⟨_, _, _, ⟨h0, s0, _⟩, ⟨u1, h1, r1⟩⟩ := h
  exact ⟨h0, ⟨u1, h1, _, r1⟩, s0⟩

theorem mk_cell {w : World} {g : Nat → Option Value} {x : CellD} (h0 : g 0 = some (.string x.Key)) (s0 : x.Key.size ≤ maxLen) {uVers : Value} {fVers : List Nat} (h1 : g 1 = some uVers) (r1 : Cod.rdS (Cod.ver) w uVers x.Vers fVers) : Cod.cell.rd w g x fVers :=
  ⟨[], fVers, rfl, ⟨h0, s0, rfl⟩, ⟨uVers, h1, r1⟩⟩

theorem at_cell {w : World} {g o : Nat} {x : CellD} (h : At Cod.cell w g o x) : w.cell? ⟨g, o, none⟩ = some (.string x.Key) ∧ (∃ u, w.cell? ⟨g, o + 1, none⟩ = some u ∧ Rd (Cod.ver) w u x.Vers) ∧ x.Key.size ≤ maxLen := by
  obtain ⟨f, h⟩ := h
  exact rd_cell h

def costCell (x : CellD) : Nat := x.Key.size + costVerS x.Vers
def costCellS (l : List CellD) : Nat := l.length + sumC costCell l

theorem opensCell {H : Type} {enc : TypeId × Value → H} {w : World} : Opens enc Try.prog w Cod.cell 89 :=
  Opens.via (opens_struct Try.underlying89 (by kernel_rfl) (opensF_cons opensStr rfl (opensF_one opensVerS rfl))) _ (fun (a0, a1) => ⟨a0, a1⟩) (fun _ => rfl)

theorem opensCellS {H : Type} {enc : TypeId × Value → H} {w : World} : Opens enc Try.prog w (Cod.slice Cod.cell) 31 := opens_slice Try.underlying31 (by kernel_rfl) opensCell (by decide)

/-- Rec -/
structure RecD where
  Kind : Int
  Txn : Int
  Time : Int
  Lead : Int
  Reads : List ByteArray
  Writes : List WriteD
  Yes : Bool

def Cod.recd : Cod RecD := Cod.via (Cod.pair (Cod.int) (Cod.pair (Cod.int) (Cod.pair (Cod.int) (Cod.pair (Cod.int) (Cod.pair (Cod.slice Cod.str) (Cod.pair (Cod.slice Cod.write) (Cod.bool))))))) (fun x => (x.Kind, x.Txn, x.Time, x.Lead, x.Reads, x.Writes, x.Yes))

theorem rd_recd {w : World} {g : Nat → Option Value} {x : RecD} {fp : List Nat} (h : Cod.recd.rd w g x fp) : g 0 = some (.int .i64 x.Kind) ∧ g 1 = some (.int .i64 x.Txn) ∧ g 2 = some (.int .i64 x.Time) ∧ g 3 = some (.int .i64 x.Lead) ∧ (∃ u, g 4 = some u ∧ Rd (Cod.str) w u x.Reads) ∧ (∃ u, g 5 = some u ∧ Rd (Cod.write) w u x.Writes) ∧ g 6 = some (.bool x.Yes) ∧ I64 x.Kind ∧ I64 x.Txn ∧ I64 x.Time ∧ I64 x.Lead := by
  obtain ⟨_, _, _, ⟨h0, s0, _⟩, ⟨_, _, _, ⟨h1, s1, _⟩, ⟨_, _, _, ⟨h2, s2, _⟩, ⟨_, _, _, ⟨h3, s3, _⟩, ⟨_, _, _, ⟨u4, h4, r4⟩, ⟨_, _, _, ⟨u5, h5, r5⟩, ⟨h6, s6, _⟩⟩⟩⟩⟩⟩⟩ := h
  exact ⟨h0, h1, h2, h3, ⟨u4, h4, _, r4⟩, ⟨u5, h5, _, r5⟩, h6, s0, s1, s2, s3⟩

theorem mk_recd {w : World} {g : Nat → Option Value} {x : RecD} (h0 : g 0 = some (.int .i64 x.Kind)) (s0 : I64 x.Kind) (h1 : g 1 = some (.int .i64 x.Txn)) (s1 : I64 x.Txn) (h2 : g 2 = some (.int .i64 x.Time)) (s2 : I64 x.Time) (h3 : g 3 = some (.int .i64 x.Lead)) (s3 : I64 x.Lead) {uReads : Value} {fReads : List Nat} (h4 : g 4 = some uReads) (r4 : Cod.rdS (Cod.str) w uReads x.Reads fReads) {uWrites : Value} {fWrites : List Nat} (h5 : g 5 = some uWrites) (r5 : Cod.rdS (Cod.write) w uWrites x.Writes fWrites) (h6 : g 6 = some (.bool x.Yes)) : Cod.recd.rd w g x (fReads ++ (fWrites ++ [])) :=
  ⟨[], (fReads ++ (fWrites ++ [])), rfl, ⟨h0, s0, rfl⟩, ⟨[], (fReads ++ (fWrites ++ [])), rfl, ⟨h1, s1, rfl⟩, ⟨[], (fReads ++ (fWrites ++ [])), rfl, ⟨h2, s2, rfl⟩, ⟨[], (fReads ++ (fWrites ++ [])), rfl, ⟨h3, s3, rfl⟩, ⟨fReads, (fWrites ++ []), rfl, ⟨uReads, h4, r4⟩, ⟨fWrites, [], rfl, ⟨uWrites, h5, r5⟩, ⟨h6, trivial, rfl⟩⟩⟩⟩⟩⟩⟩

theorem at_recd {w : World} {g o : Nat} {x : RecD} (h : At Cod.recd w g o x) : w.cell? ⟨g, o, none⟩ = some (.int .i64 x.Kind) ∧ w.cell? ⟨g, o + 1, none⟩ = some (.int .i64 x.Txn) ∧ w.cell? ⟨g, o + 2, none⟩ = some (.int .i64 x.Time) ∧ w.cell? ⟨g, o + 3, none⟩ = some (.int .i64 x.Lead) ∧ (∃ u, w.cell? ⟨g, o + 4, none⟩ = some u ∧ Rd (Cod.str) w u x.Reads) ∧ (∃ u, w.cell? ⟨g, o + 5, none⟩ = some u ∧ Rd (Cod.write) w u x.Writes) ∧ w.cell? ⟨g, o + 6, none⟩ = some (.bool x.Yes) ∧ I64 x.Kind ∧ I64 x.Txn ∧ I64 x.Time ∧ I64 x.Lead := by
  obtain ⟨f, h⟩ := h
  exact rd_recd h

def costRec (x : RecD) : Nat := costStringS x.Reads + costWriteS x.Writes
def costRecS (l : List RecD) : Nat := l.length + sumC costRec l

set_option maxRecDepth 100000 in
/-- A list that came in. -/
theorem arg_rows {H : Type} {enc : TypeId × Value → H} {w : World} {α : Type} {c : Cod α} {t e : TypeId} {r : Reach} {b0 : Nat} {v : Value} {d : DataW H} {ps : List MemPlace} (ht : Try.prog.underlying t = some (.slice e)) (ho : Opens enc Try.prog w (Cod.slice c) t) (hv : Value.okWide Try.prog w r b0 t v) (hd : DataW.Trod enc Try.prog w 0 (fun _ => true) true t v d ps) :
    ∃ l : List α, Rd c w v l := by
  obtain ⟨xs, fp, v', h0, hr⟩ := open_arg ho hd
  obtain ⟨a0, n0, c0, rfl⟩ := okWide_slice ht hv
  simp only [Value.cells, List.getElem?_toArray, List.getElem?_cons_zero, Option.some.injEq] at h0
  rw [← h0] at hr
  exact ⟨xs, fp, hr⟩

end Go.Proofs.Ytkiebgmcjkfpaaa
