/- toRec for the laws. -/
import Derived.Test.YtibgpjkpfakgiaaTos
namespace Go.Proofs.Ytibgpjkpfakgiaa
open Go.RowKit

theorem to_rds {w : World} {y : RecD} {a b : Value} {f : List Nat} (h : Cod.recd.rd w (lst [.int .i64 y.Kind, .int .i64 y.Txn, .int .i64 y.Time, .int .i64 y.Lead, a, b, .bool y.Yes]) y f) : Rd Cod.str w a y.Reads ∧ Rd Cod.write w b y.Writes := by
  obtain ⟨_, _, _, _, ⟨_, h1, r1⟩, ⟨_, h2, r2⟩, _⟩ := rd_recd h
  obtain rfl := Option.some.inj h1
  obtain rfl := Option.some.inj h2
  exact ⟨r1, r2⟩

/-- toRec, in the words of the laws' walks. -/
theorem toRec_w (y : RecD) (i0 : I64 y.Kind) (i1 : I64 y.Txn) (i2 : I64 y.Time) (i3 : I64 y.Lead) (hc : costRec y ≤ 1048576) (w : World) (a b : Value) (ra : Rd Cod.str w a y.Reads) (rb : Rd Cod.write w b y.Writes) :
    Calls Try.prog 10 #[.agg #[.int .i64 y.Kind, .int .i64 y.Txn, .int .i64 y.Time, .int .i64 y.Lead, a, b, .bool y.Yes]] w fun e w' => ∃ p c q d, e = .returned (.agg #[.int .i64 y.Kind, .int .i64 y.Txn, .int .i64 y.Time, .int .i64 y.Lead, .slice p y.Reads.length c, .slice q y.Writes.length d, .bool y.Yes]) ∧ Rd Cod.str w' (.slice p y.Reads.length c) y.Reads ∧ Rd Cod.write w' (.slice q y.Writes.length d) y.Writes ∧ Below w.heap.size w w' := by
  have h1 : y.Reads.length ≤ 1048576 := by unfold costRec costStringS at hc; omega
  have h2 : costWriteS y.Writes ≤ 1048576 := by unfold costRec at hc; omega
  refine (toRec_d y i0 i1 i2 i3 h1 h2 w a ra b rb).mono ?_
  rintro e w' ⟨⟨p, c, q, d, f, rfl, hrd, _⟩, k⟩
  obtain ⟨r1, r2⟩ := to_rds hrd
  exact ⟨p, c, q, d, rfl, r1, r2, k⟩

end Go.Proofs.Ytibgpjkpfakgiaa
