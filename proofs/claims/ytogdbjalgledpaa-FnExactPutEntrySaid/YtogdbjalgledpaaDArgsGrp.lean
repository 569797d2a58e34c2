/- A group that came in, opened; copied, for the laws. Printed by mkgl.py. -/
import Derived.Test.YtogdbjalgledpaaDArgs
import Derived.Test.YtogdbjalgledpaaTos
namespace Go.Proofs.Ytogdbjalgledpaa
open Go.ChangeShapes Go.WideShapes Go.ChangeAt Go.RowKit

section
variable {H : Type} {enc : TypeId × Value → H} {w : World}
set_option maxRecDepth 100000 in
theorem arg_group_d {r : Reach} {b0 : Nat} {v : Value} {d : DataW H} {ps : List MemPlace} (hv : Value.okWide Try.prog w r b0 24 v) (hd : DataW.Trod enc Try.prog w 0 (fun _ => true) true 24 v d ps) :
    ∃ (y : GroupD) (a : Value), v = .agg #[a, .int .i64 y.Term, .int .i64 y.Lead] ∧ Rd Cod.replica w a y.Reps ∧ I64 y.Term ∧ I64 y.Lead := by
  obtain ⟨cs, rfl, hs⟩ := okWide_struct Try.underlying24 hv
  rw [show Try.prog.cellsOf 24 = 3 from by kernel_rfl] at hs
  obtain ⟨y, fp, hy⟩ := open_arg opensGroup hd
  obtain ⟨l, rfl, hl⟩ := agg_of hs
  match l, hl with
  | [c0, c1, c2], _ =>
    obtain ⟨⟨a, h0, ra⟩, h1, h2, i0, i1⟩ := rd_group hy
    simp [Value.cells] at h0 h1 h2
    subst h0 h1 h2
    exact ⟨y, _, rfl, ra, i0, i1⟩
end

/-- laws.toGroup: a slice of its own. -/
theorem toGroup_w (y : GroupD) (i0 : I64 y.Term) (i1 : I64 y.Lead) (c : costReplicaS y.Reps ≤ 1048576) (u : World) (a : Value) (r : Rd Cod.replica u a y.Reps) :
    Calls Try.prog 12 #[.agg #[a, .int .i64 y.Term, .int .i64 y.Lead]] u fun e w' => ∃ p e', e = .returned (.agg #[.slice p y.Reps.length e', .int .i64 y.Term, .int .i64 y.Lead]) ∧ Own Cod.replica w' u.heap.size (.slice p y.Reps.length e') y.Reps ∧ Below u.heap.size u w' := by
  refine (toGroup_d y i0 i1 c u a r).mono ?_
  rintro e w' ⟨⟨p, e', f, rfl, hx, hm⟩, k⟩
  obtain ⟨f1, f2, rfl, ⟨v, hv, hr⟩, _⟩ := hx
  have hv' : some (Value.slice p y.Reps.length e') = some v := hv
  injection hv' with hv'
  subst hv'
  refine ⟨p, e', rfl, ⟨f1, hr, ⟨(List.nodup_append.1 hm.nodup).1, fun b hb => hm.low b (List.mem_append_left _ hb), fun b hb => hm.free b (List.mem_append_left _ hb)⟩⟩, k⟩

end Go.Proofs.Ytogdbjalgledpaa
