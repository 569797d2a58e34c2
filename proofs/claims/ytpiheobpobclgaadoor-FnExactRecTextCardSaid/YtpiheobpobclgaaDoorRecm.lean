/- Plain lemmas and contracts that all proofs of this seat lean on: bundle Recm. -/
import Derived.Test.YtpiheobpobclgaaDoorLawM
import Derived.Test.YtpiheobpobclgaaDoorMarks
import Derived.Test.YtpiheobpobclgaaDoorTos
import Derived.Test.YtpiheobpobclgaaDoorEqs
import Derived.Test.YtpiheobpobclgaaDoorSizes
/- law level: laws.markStringS, laws.heldStringS. Printed by mkmark.py. -/
namespace Go.Proofs.YtpiheobpobclgaaDoor
open Go.RowKit

end Go.Proofs.YtpiheobpobclgaaDoor


/- law level: laws.markWriteS, laws.heldWriteS. Printed by mkmark.py. -/
namespace Go.Proofs.YtpiheobpobclgaaDoor
open Go.RowKit

end Go.Proofs.YtpiheobpobclgaaDoor


/- toRec for the laws. -/
namespace Go.Proofs.YtpiheobpobclgaaDoor
open Go.RowKit

theorem to_rds {w : World} {y : RecD} {a b : Value} {f : List Nat} (h : Cod.recd.rd w (lst [.int .i64 y.Kind, .int .i64 y.Txn, .int .i64 y.Time, .int .i64 y.Lead, a, b, .bool y.Yes]) y f) : Rd Cod.str w a y.Reads ∧ Rd Cod.write w b y.Writes := by
  obtain ⟨_, _, _, _, ⟨_, h1, r1⟩, ⟨_, h2, r2⟩, _⟩ := rd_recd h
  obtain rfl := Option.some.inj h1
  obtain rfl := Option.some.inj h2
  exact ⟨r1, r2⟩

/-- toRec, in the words of the laws' walks. -/
theorem toRec_w (y : RecD) (i0 : I64 y.Kind) (i1 : I64 y.Txn) (i2 : I64 y.Time) (i3 : I64 y.Lead) (hc : costRec y ≤ 1048576) (w : World) (a b : Value) (ra : Rd Cod.str w a y.Reads) (rb : Rd Cod.write w b y.Writes) :
    Calls Tryd.prog 16 #[.agg #[.int .i64 y.Kind, .int .i64 y.Txn, .int .i64 y.Time, .int .i64 y.Lead, a, b, .bool y.Yes]] w fun e w' => ∃ p c q d, e = .returned (.agg #[.int .i64 y.Kind, .int .i64 y.Txn, .int .i64 y.Time, .int .i64 y.Lead, .slice p y.Reads.length c, .slice q y.Writes.length d, .bool y.Yes]) ∧ Rd Cod.str w' (.slice p y.Reads.length c) y.Reads ∧ Rd Cod.write w' (.slice q y.Writes.length d) y.Writes ∧ Below w.heap.size w w' := by
  have h1 : y.Reads.length ≤ 1048576 := by unfold costRec costStringS at hc; omega
  have h2 : costWriteS y.Writes ≤ 1048576 := by unfold costRec at hc; omega
  refine (toRec_d y i0 i1 i2 i3 h1 h2 w a ra b rb).mono ?_
  rintro e w' ⟨⟨p, c, q, d, f, rfl, hrd, _⟩, k⟩
  obtain ⟨r1, r2⟩ := to_rds hrd
  exact ⟨p, c, q, d, rfl, r1, r2, k⟩

end Go.Proofs.YtpiheobpobclgaaDoor


/- Records in a law: read, kept, copied, marked. -/
namespace Go.Proofs.YtpiheobpobclgaaDoor
open Go.RowKit

section
variable {α : Type} {c : Cod α} {w w' : World} {lo hi : Nat} {vs : List Value} {x : α}

/-- Values that read as x, by blocks from lo on, below hi. -/
def RIn (c : Cod α) (w : World) (lo hi : Nat) (vs : List Value) (x : α) : Prop := ∃ f, c.rd w (lst vs) x f ∧ ∀ d ∈ f, lo ≤ d ∧ d < hi
/-- Values of the call's own that do. -/
def ROwn (c : Cod α) (w : World) (lo hi : Nat) (vs : List Value) (x : α) : Prop := ∃ f, c.rd w (lst vs) x f ∧ Mine w lo f ∧ ∀ d ∈ f, d < hi

theorem ROwn.mono {lo' : Nat} (h : ROwn c w lo hi vs x) (k : lo' ≤ lo) : ROwn c w lo' hi vs x := by
  obtain ⟨f, h, m, r⟩ := h
  exact ⟨f, h, m.mono k, r⟩
theorem ROwn.inn (h : ROwn c w lo hi vs x) : RIn c w lo hi vs x := by
  obtain ⟨f, h, m, k⟩ := h
  exact ⟨f, h, fun d hd => ⟨m.low d hd, k d hd⟩⟩
theorem RIn.below (h : RIn c w lo hi vs x) (k : Below w.heap.size w w') : RIn c w' lo hi vs x := by
  obtain ⟨f, h, r⟩ := h
  exact ⟨f, c.frame (fun b hb => k.block b (c.old h b hb)) h, r⟩
theorem ROwn.below (h : ROwn c w lo hi vs x) (k : Below w.heap.size w w') : ROwn c w' lo hi vs x := by
  obtain ⟨f, h, m, r⟩ := h
  have hf := fun b hb => k.block b (c.old h b hb)
  exact ⟨f, c.frame hf h, m.frame hf, r⟩
theorem RIn.turn {a b : Nat} (h : RIn c w lo hi vs x) (k : Turn a b w w') (hd : hi ≤ a ∨ b ≤ lo) : RIn c w' lo hi vs x := by
  obtain ⟨f, h, r⟩ := h
  exact ⟨f, c.frame (fun d hdf => k.block d (c.old h d hdf) (by have := r d hdf; omega)) h, r⟩
theorem ROwn.turn {a b : Nat} (h : ROwn c w lo hi vs x) (k : Turn a b w w') (hd : hi ≤ a ∨ b ≤ lo) : ROwn c w' lo hi vs x := by
  obtain ⟨f, h, m, r⟩ := h
  have hf := fun d (hdf : d ∈ f) => k.block d (c.old h d hdf) (by have := r d hdf; have := m.low d hdf; omega)
  exact ⟨f, c.frame hf h, m.frame hf, r⟩
end

/-- A record's cells. -/
abbrev recVs (y : RecD) (a b : Value) : List Value := [.int .i64 y.Kind, .int .i64 y.Txn, .int .i64 y.Time, .int .i64 y.Lead, a, b, .bool y.Yes]

theorem RIn.rds {w : World} {lo hi : Nat} {y : RecD} {a b : Value} (h : RIn Cod.recd w lo hi (recVs y a b) y) : Rd Cod.str w a y.Reads ∧ Rd Cod.write w b y.Writes := by
  obtain ⟨f, h, _⟩ := h
  exact to_rds h
theorem RIn.rd1 {w : World} {lo hi : Nat} {y : RecD} {a b : Value} (h : RIn Cod.recd w lo hi (recVs y a b) y) : Rd Cod.str w a y.Reads := h.rds.1
theorem RIn.rd2 {w : World} {lo hi : Nat} {y : RecD} {a b : Value} (h : RIn Cod.recd w lo hi (recVs y a b) y) : Rd Cod.write w b y.Writes := h.rds.2
theorem ROwn.rd1 {w : World} {lo hi : Nat} {y : RecD} {a b : Value} (h : ROwn Cod.recd w lo hi (recVs y a b) y) : Rd Cod.str w a y.Reads := h.inn.rds.1
theorem ROwn.rd2 {w : World} {lo hi : Nat} {y : RecD} {a b : Value} (h : ROwn Cod.recd w lo hi (recVs y a b) y) : Rd Cod.write w b y.Writes := h.inn.rds.2
theorem rec_within {w : World} {y : RecD} {a b : Value} (i0 : I64 y.Kind) (i1 : I64 y.Txn) (i2 : I64 y.Time) (i3 : I64 y.Lead) (h1 : Rd Cod.str w a y.Reads) (h2 : Rd Cod.write w b y.Writes) : RIn Cod.recd w 0 w.heap.size (recVs y a b) y := by
  obtain ⟨f1, h1⟩ := h1
  obtain ⟨f2, h2⟩ := h2
  have h := mk_recd (w := w) (g := lst (recVs y a b)) (x := y) rfl i0 rfl i1 rfl i2 rfl i3 rfl h1 rfl h2 rfl
  exact ⟨_, h, fun d hd => ⟨Nat.zero_le _, Cod.recd.old h d hd⟩⟩

theorem costRec_le {y : RecD} (c : costRec y ≤ 1048576) : y.Reads.length ≤ 1048576 ∧ costWriteS y.Writes ≤ 1048576 ∧ y.Writes.length ≤ 1048576 := by
  unfold costRec costStringS costWriteS at *
  omega

/-- laws.toRec: a record of its own. -/
theorem toRec_o (y : RecD) (i0 : I64 y.Kind) (i1 : I64 y.Txn) (i2 : I64 y.Time) (i3 : I64 y.Lead) (c : costRec y ≤ 1048576) (u : World) (a b : Value) (r : Rd Cod.str u a y.Reads) (r' : Rd Cod.write u b y.Writes) :
    Calls Tryd.prog 16 #[.agg #[.int .i64 y.Kind, .int .i64 y.Txn, .int .i64 y.Time, .int .i64 y.Lead, a, b, .bool y.Yes]] u fun e w' => ∃ p e1 p' e', e = .returned (.agg #[.int .i64 y.Kind, .int .i64 y.Txn, .int .i64 y.Time, .int .i64 y.Lead, .slice p y.Reads.length e1, .slice p' y.Writes.length e', .bool y.Yes]) ∧
      ROwn Cod.recd w' u.heap.size w'.heap.size (recVs y (.slice p y.Reads.length e1) (.slice p' y.Writes.length e')) y ∧ Below u.heap.size u w' := by
  refine (toRec_d y i0 i1 i2 i3 (costRec_le c).1 (costRec_le c).2.1 u a r b r').mono ?_
  rintro e w' ⟨⟨p, e1, p', e', f, rfl, hx, hm⟩, k⟩
  exact ⟨p, e1, p', e', rfl, ⟨f, hx, hm, Cod.recd.old hx⟩, k⟩

theorem eqRec_o (y : RecD) (c : costRec y ≤ 1048576) (u : World) (p : Value) (r1 : Rd Cod.str u p y.Reads) (p' : Value) (r1' : Rd Cod.write u p' y.Writes) (q : Value) (r2 : Rd Cod.str u q y.Reads) (q' : Value) (r2' : Rd Cod.write u q' y.Writes) :
    Calls Tryd.prog 18 #[.agg #[.int .i64 y.Kind, .int .i64 y.Txn, .int .i64 y.Time, .int .i64 y.Lead, p, p', .bool y.Yes], .agg #[.int .i64 y.Kind, .int .i64 y.Txn, .int .i64 y.Time, .int .i64 y.Lead, q, q', .bool y.Yes]] u fun e w' => e = .returned (.bool true) ∧ Below u.heap.size u w' :=
  eqRec_d y (costRec_le c).1 (costRec_le c).2.2 u p r1 p' r1' q r2 q' r2'

/-- How many marks a record gets. -/
def LRecM (y : RecD) : Nat := sumN LString y.Reads + sumN LWrite y.Writes
theorem lenRecM (y : RecD) : LRecM y ≤ 6 * costRec y := by
  have h1 := lenString y.Reads
  have h2 := lenWrite y.Writes
  unfold LRecM costRec
  omega

theorem Turn.trans {lo hi : Nat} {a b d : World} (h : Turn lo hi a b) (k : Turn lo hi b d) : Turn lo hi a d :=
  ⟨k.os.trans h.os, k.tape.trans h.tape, k.output.trans h.output, Nat.le_trans h.size k.size, fun i h1 h2 => (k.block i (Nat.lt_of_lt_of_le h1 h.size) h2).trans (h.block i h1 h2)⟩
theorem Turn.after {lo hi : Nat} {a b d : World} (h : Below a.heap.size a b) (k : Turn lo hi b d) : Turn lo hi a d :=
  ⟨k.os.trans h.os, k.tape.trans h.tape, k.output.trans h.output, Nat.le_trans h.size k.size, fun i h1 h2 => (k.block i (Nat.lt_of_lt_of_le h1 h.size) h2).trans (h.block i h1)⟩

end Go.Proofs.YtpiheobpobclgaaDoor

