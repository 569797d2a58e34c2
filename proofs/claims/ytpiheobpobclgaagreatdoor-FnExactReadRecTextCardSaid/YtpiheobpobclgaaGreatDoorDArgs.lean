/- Arguments of one cell, and structs with lists, opened. Printed by mkro.py. -/
import Derived.Test.YtpiheobpobclgaaGreatDoorRowd
namespace Go.Proofs.YtpiheobpobclgaaGreatDoor
open Go.ChangeShapes Go.WideShapes Go.ChangeAt Go.RowKit
variable {H : Type} {enc : TypeId × Value → H} {w : World}

set_option maxRecDepth 100000 in
theorem arg_int {r : Reach} {b0 : Nat} {v : Value} {d : DataW H} {ps : List MemPlace} (hv : Value.okWide Tryz.prog w r b0 3 v) (hd : DataW.Trod enc Tryz.prog w 0 (fun _ => true) true 3 v d ps) : ∃ x : Int, v = .int .i64 x ∧ I64 x := by
  obtain ⟨y, fp, hy⟩ := open_arg opensInt hd
  obtain ⟨n, rfl, _⟩ := open_int Tryz.underlying3 hv hd
  obtain ⟨h0, h1, _⟩ := hy
  simp [Value.cells] at h0
  subst h0
  exact ⟨_, rfl, h1⟩

set_option maxRecDepth 100000 in
theorem arg_str {r : Reach} {b0 : Nat} {v : Value} {d : DataW H} {ps : List MemPlace} (hv : Value.okWide Tryz.prog w r b0 9 v) (hd : DataW.Trod enc Tryz.prog w 0 (fun _ => true) true 9 v d ps) : ∃ x : ByteArray, v = .string x ∧ x.size ≤ maxLen := by
  obtain ⟨n, h1, _, _, h2⟩ := ChangeMaps.open_string Tryz.underlying9 hv hd
  exact ⟨n, h1, h2⟩

end Go.Proofs.YtpiheobpobclgaaGreatDoor
