/- Plain lemmas and contracts that all proofs of this seat lean on: bundle Recm. -/
import Derived.Test.YtkcidneefdaaiaaLawM
import Derived.Test.YtkcidneefdaaiaaMarks
import Derived.Test.YtkcidneefdaaiaaTos
import Derived.Test.YtkcidneefdaaiaaEqs
import Derived.Test.YtkcidneefdaaiaaSizes
/- law level: laws.markStringS, laws.heldStringS. Printed by mkmark.py. -/
namespace Go.Proofs.Ytkcidneefdaaiaa
open Go.RowKit

end Go.Proofs.Ytkcidneefdaaiaa


/- law level: laws.markWriteS, laws.heldWriteS. Printed by mkmark.py. -/
namespace Go.Proofs.Ytkcidneefdaaiaa
open Go.RowKit

theorem markWriteS_l (k0 : Nat) (h0 : 0 < k0) (v : Value) (l : List WriteD) (lo hi : Nat) (u : World) (h : OwnIn Cod.write u lo hi v l) (hL : k0 + sumN LWrite l ≤ 1073741824) :
    Calls Try.prog 10 #[v, .int .i64 (k0 : Int)] u fun e u' => e = .returned (.int .i64 ((k0 + sumN LWrite l : Nat) : Int)) ∧ HeldS PT.twrite u' v k0 (sumN LWrite l) ∧ Turn lo hi u u' := by
  obtain ⟨fp, h1, h2, h3, h4⟩ := h.marked fitsWrite
  refine (markWriteS_p k0 h0 v fp u h1 h2 (by rw [h3]; exact hL)).mono ?_
  rintro e u' ⟨rfl, hs⟩
  exact ⟨by rw [h3], h4 u' k0 hs⟩

end Go.Proofs.Ytkcidneefdaaiaa


/- toRec for the laws. -/
namespace Go.Proofs.Ytkcidneefdaaiaa
open Go.RowKit

theorem to_rds {w : World} {y : RecD} {a b : Value} {f : List Nat} (h : Cod.recd.rd w (lst [.int .i64 y.Kind, .int .i64 y.Txn, .int .i64 y.Time, .int .i64 y.Lead, a, b, .bool y.Yes]) y f) : Rd Cod.str w a y.Reads ∧ Rd Cod.write w b y.Writes := by
  obtain ⟨_, _, _, _, ⟨_, h1, r1⟩, ⟨_, h2, r2⟩, _⟩ := rd_recd h
  obtain rfl := Option.some.inj h1
  obtain rfl := Option.some.inj h2
  exact ⟨r1, r2⟩

end Go.Proofs.Ytkcidneefdaaiaa


/- Records in a law: read, kept, copied, marked. -/
namespace Go.Proofs.Ytkcidneefdaaiaa
open Go.RowKit

section
variable {α : Type} {c : Cod α} {w w' : World} {lo hi : Nat} {vs : List Value} {x : α}

/-- Values that read as x, by blocks from lo on, below hi. -/
def RIn (c : Cod α) (w : World) (lo hi : Nat) (vs : List Value) (x : α) : Prop := ∃ f, c.rd w (lst vs) x f ∧ ∀ d ∈ f, lo ≤ d ∧ d < hi
/-- Values of the call's own that do. -/
def ROwn (c : Cod α) (w : World) (lo hi : Nat) (vs : List Value) (x : α) : Prop := ∃ f, c.rd w (lst vs) x f ∧ Mine w lo f ∧ ∀ d ∈ f, d < hi

theorem ROwn.mono {lo' : Nat} (h : ROwn c w lo hi vs x) (k : lo' ≤ lo) : ROwn c w lo' hi vs x := by
  obtain ⟨f, h, m, r⟩ := h
  exact ⟨f, h, m.mono k, r⟩
theorem ROwn.inn (h : ROwn c w lo hi vs x) : RIn c w lo hi vs x := by
  obtain ⟨f, h, m, k⟩ := h
  exact ⟨f, h, fun d hd => ⟨m.low d hd, k d hd⟩⟩
theorem RIn.below (h : RIn c w lo hi vs x) (k : Below w.heap.size w w') : RIn c w' lo hi vs x := by
  obtain ⟨f, h, r⟩ := h
  exact ⟨f, c.frame (fun b hb => k.block b (c.old h b hb)) h, r⟩
theorem ROwn.below (h : ROwn c w lo hi vs x) (k : Below w.heap.size w w') : ROwn c w' lo hi vs x := by
  obtain ⟨f, h, m, r⟩ := h
  have hf := fun b hb => k.block b (c.old h b hb)
  exact ⟨f, c.frame hf h, m.frame hf, r⟩
theorem RIn.turn {a b : Nat} (h : RIn c w lo hi vs x) (k : Turn a b w w') (hd : hi ≤ a ∨ b ≤ lo) : RIn c w' lo hi vs x := by
  obtain ⟨f, h, r⟩ := h
  exact ⟨f, c.frame (fun d hdf => k.block d (c.old h d hdf) (by have := r d hdf; omega)) h, r⟩
theorem ROwn.turn {a b : Nat} (h : ROwn c w lo hi vs x) (k : Turn a b w w') (hd : hi ≤ a ∨ b ≤ lo) : ROwn c w' lo hi vs x := by
  obtain ⟨f, h, m, r⟩ := h
  have hf := fun d (hdf : d ∈ f) => k.block d (c.old h d hdf) (by have := r d hdf; have := m.low d hdf; omega)
  exact ⟨f, c.frame hf h, m.frame hf, r⟩
end

/-- A record's cells. -/
abbrev recVs (y : RecD) (a b : Value) : List Value := [.int .i64 y.Kind, .int .i64 y.Txn, .int .i64 y.Time, .int .i64 y.Lead, a, b, .bool y.Yes]

theorem RIn.rds {w : World} {lo hi : Nat} {y : RecD} {a b : Value} (h : RIn Cod.recd w lo hi (recVs y a b) y) : Rd Cod.str w a y.Reads ∧ Rd Cod.write w b y.Writes := by
  obtain ⟨f, h, _⟩ := h
  exact to_rds h
theorem RIn.rd1 {w : World} {lo hi : Nat} {y : RecD} {a b : Value} (h : RIn Cod.recd w lo hi (recVs y a b) y) : Rd Cod.str w a y.Reads := h.rds.1
theorem RIn.rd2 {w : World} {lo hi : Nat} {y : RecD} {a b : Value} (h : RIn Cod.recd w lo hi (recVs y a b) y) : Rd Cod.write w b y.Writes := h.rds.2
theorem ROwn.rd1 {w : World} {lo hi : Nat} {y : RecD} {a b : Value} (h : ROwn Cod.recd w lo hi (recVs y a b) y) : Rd Cod.str w a y.Reads := h.inn.rds.1
theorem ROwn.rd2 {w : World} {lo hi : Nat} {y : RecD} {a b : Value} (h : ROwn Cod.recd w lo hi (recVs y a b) y) : Rd Cod.write w b y.Writes := h.inn.rds.2
theorem rec_within {w : World} {y : RecD} {a b : Value} (i0 : I64 y.Kind) (i1 : I64 y.Txn) (i2 : I64 y.Time) (i3 : I64 y.Lead) (h1 : Rd Cod.str w a y.Reads) (h2 : Rd Cod.write w b y.Writes) : RIn Cod.recd w 0 w.heap.size (recVs y a b) y := by
  obtain ⟨f1, h1⟩ := h1
  obtain ⟨f2, h2⟩ := h2
  have h := mk_recd (w := w) (g := lst (recVs y a b)) (x := y) rfl i0 rfl i1 rfl i2 rfl i3 rfl h1 rfl h2 rfl
  exact ⟨_, h, fun d hd => ⟨Nat.zero_le _, Cod.recd.old h d hd⟩⟩

theorem costRec_le {y : RecD} (c : costRec y ≤ 1048576) : y.Reads.length ≤ 1048576 ∧ costWriteS y.Writes ≤ 1048576 ∧ y.Writes.length ≤ 1048576 := by
  unfold costRec costStringS costWriteS at *
  omega

/-- How many marks a record gets. -/
def LRecM (y : RecD) : Nat := sumN LString y.Reads + sumN LWrite y.Writes
theorem lenRecM (y : RecD) : LRecM y ≤ 6 * costRec y := by
  have h1 := lenString y.Reads
  have h2 := lenWrite y.Writes
  unfold LRecM costRec
  omega

theorem Turn.trans {lo hi : Nat} {a b d : World} (h : Turn lo hi a b) (k : Turn lo hi b d) : Turn lo hi a d :=
  ⟨k.os.trans h.os, k.tape.trans h.tape, k.output.trans h.output, Nat.le_trans h.size k.size, fun i h1 h2 => (k.block i (Nat.lt_of_lt_of_le h1 h.size) h2).trans (h.block i h1 h2)⟩
theorem Turn.after {lo hi : Nat} {a b d : World} (h : Below a.heap.size a b) (k : Turn lo hi b d) : Turn lo hi a d :=
  ⟨k.os.trans h.os, k.tape.trans h.tape, k.output.trans h.output, Nat.le_trans h.size k.size, fun i h1 h2 => (k.block i (Nat.lt_of_lt_of_le h1 h.size) h2).trans (h.block i h1)⟩

end Go.Proofs.Ytkcidneefdaaiaa

