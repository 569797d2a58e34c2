/- A record that came in, opened. -/
import Derived.Test.YtpiheobpobclgaaDoorDArgs
namespace Go.Proofs.YtpiheobpobclgaaDoor
open Go.ChangeShapes Go.WideShapes Go.ChangeAt Go.RowKit
variable {H : Type} {enc : TypeId × Value → H} {w : World}

set_option maxRecDepth 100000 in
theorem arg_recd_d {r : Reach} {b0 : Nat} {v : Value} {d : DataW H} {ps : List MemPlace} (hv : Value.okWide Tryd.prog w r b0 36 v) (hd : DataW.Trod enc Tryd.prog w 0 (fun _ => true) true 36 v d ps) :
    ∃ (y : RecD) (a b : Value), v = .agg #[.int .i64 y.Kind, .int .i64 y.Txn, .int .i64 y.Time, .int .i64 y.Lead, a, b, .bool y.Yes] ∧ Rd Cod.str w a y.Reads ∧ Rd Cod.write w b y.Writes ∧ I64 y.Kind ∧ I64 y.Txn ∧ I64 y.Time ∧ I64 y.Lead := by
  obtain ⟨cs, rfl, hs⟩ := okWide_struct Tryd.underlying36 hv
  rw [show Tryd.prog.cellsOf 36 = 7 from by kernel_rfl] at hs
  obtain ⟨y, fp, hy⟩ := open_arg opensRec hd
  obtain ⟨l, rfl, hl⟩ := agg_of hs
  match l, hl with
  | [c0, c1, c2, c3, c4, c5, c6], _ =>
    obtain ⟨h0, h1, h2, h3, ⟨a, h4, ra⟩, ⟨b, h5, rb⟩, h6, i0, i1, i2, i3⟩ := rd_recd hy
    simp [Value.cells] at h0 h1 h2 h3 h4 h5 h6
    subst h0 h1 h2 h3 h4 h5 h6
    exact ⟨y, _, _, rfl, ra, rb, i0, i1, i2, i3⟩

end Go.Proofs.YtpiheobpobclgaaDoor
