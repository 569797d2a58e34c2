/- For every input the law FnExactReadOps returns true, and the argument reads afterwards as it read before; the listed variables as the program lays them. -/
import Derived.Test.YtpiheobpobclgaaDoorWalkReadOps
import Derived.Test.YtpiheobpobclgaaDoorShaped
import Derived.Test.YtpiheobpobclgaaDoorLaid
import Derived.Test.YtpiheobpobclgaaDoorCore
import Derived.Test.YtpiheobpobclgaaDoorDArgs
import Derived.Test.YtpiheobpobclgaaDoorFacts
import Derived.Test.YtpiheobpobclgaaDoorTie
import Derived.Test.YtpiheobpobclgaaDoorCards
import Derived.SevenTiedAt
namespace Go.Proofs.YtpiheobpobclgaaDoor.fnExactReadOps
open Go.ChangeShapes Go.WideShapes Go.ChangeAt Go.RowKit

set_option maxRecDepth 100000 in
/-- What the walk gives, for every argument. -/
theorem contract {H : Type} {enc : TypeId × Value → H} (W : World) (base : Nat) (args : Array Value) (ds gs : List (DataW H)) (before : List MemPlace)
    (hval : ∀ (j : Nat) t v, Tryd.f6.params[j]? = some t → args[j]? = some v → Value.okWide Tryd.prog W .any base t v)
    (hW : DataW.Whole enc Tryd.prog Tryd.f6.params.toList Rows.fnExactReadOpsSpec.vars false W args.toList ds gs before)
    (hL : laidMetH Tryd.prog Rows.fnExactReadOpsRow.laid W) (hSh : W.ShapedOpen Tryd.prog) :
    Calls Tryd.prog 6 args W fun e W' => e = .returned (.bool true) ∧ Below W.heap.size W W' := by
  obtain ⟨p, q, hA0, _, _, _, _⟩ := hW
  have hA : DataW.TrodAll enc Tryd.prog W 0 (fun _ => true) true Tryd.f6.params.toList args.toList ds p := hA0
  rw [Tryd.params6] at hA hval
  clear hA0
  obtain ⟨v0, d0, rfl, rfl, h0⟩ := trodAll_one hA
  obtain ⟨y0, rfl, by0⟩ := arg_str (hval 0 9 _ rfl rfl) h0
  rw [MakeChecks.laidMetH_plain _ _ _ (by kernel_rfl)] at hL
  exact walk (w := W) y0 by0 (tabW_of hL.tail.tail) (errW_of hL.tail.tail.tail.tail) (maxW_of hSh)

set_option maxRecDepth 100000 in
theorem lifted (os : Os) (started : os.Started) (H : Type) (enc : TypeId × Value → H) :
    ReturnsInHanded {} Tryd.checked os 6 .any (fun w args => (Rows.fnExactReadOpsSpec.pre enc Tryd.prog Tryd.f6 Rows.fnExactReadOpsRow.domain false w args ∧ laidMetH Tryd.prog Rows.fnExactReadOpsRow.laid w) ∧ sizedMet enc Tryd.prog Tryd.f6 (OpenSpec.ofChange Rows.fnExactReadOpsSpec) false w args)
      (Rows.fnExactReadOpsSpec.post enc Tryd.prog Tryd.f6 false true false false) := by
  refine handed_and_shaped (C := Tryd.checked) (X := fun w _ => laidMetH Tryd.prog Rows.fnExactReadOpsRow.laid w) (fun _ _ _ hh h => h.of_heap hh) own started (by kernel_rfl) Tryd.func6
    (ChangeSpec.witness_shaped (enc := enc) (C := Tryd.checked) (os := os) (X := fun w _ => laidMetH Tryd.prog Rows.fnExactReadOpsRow.laid w) false (World.laidAll Tryd.prog os Rows.fnExactReadOpsRow.laid) #[.string ByteArray.empty] 8 (World.laidAll_os _ _ _)
      (World.shaped_of_ZipB (by kernel_rfl) (by kernel_rfl)) (by kernel_rfl) (by kernel_rfl) (by kernel_rfl)
      (by rw [MakeChecks.laidMetH_plain _ _ _ (by kernel_rfl)]; exact laidMet_laidAll _ (by kernel_rfl) (by kernel_rfl))) ?_
  intro W base args ds gs before hval hW hL hSh
  refine (contract W base args ds gs before hval hW hL hSh).mono fun e W' ⟨he, hb⟩ => ⟨_, he, ?_⟩
  exact law_post laidOut (by kernel_rfl) rfl Tryd.underlying4 rfl (fun xs hx => by
    match xs, hx with
    | [d0], _ => rfl) hW hb

theorem closed : joinedFacts Tryd.prog 6 Tryd.f6 Rows.fnExactReadOpsSpec Rows.fnExactReadOpsRow = true := by
  unfold joinedFacts
  rw [factEnter, factLifts, factMake]
  kernel_rfl

theorem said : Rows.FnExactReadOpsSaid :=
  OpenClaim.holds_of_wide 6 Tryd.f6 rfl rfl rfl rfl rfl rfl rfl ⟨rfl, rfl, rfl, rfl, rfl⟩ rfl rfl rfl rfl rfl (by kernel_rfl) Tryd.func6 closed
    (of_decide_eq_true (by kernel_rfl)) (by unfold Func.isWrapper; first | (rw [if_pos (by decide +kernel)]; kernel_rfl) | (rw [if_neg (by decide +kernel)]; exact ⟨rfl, rfl⟩))
    (fun os started H enc _ => lifted os started H enc)

/-- The tied card. -/
theorem holds : Rows.FnExactReadOpsCardSaid :=
  Claim7.holds_tied_plain_at .later [] [.data, .data, .data, .data, .sentinel, .sentinel, .pinned] true (true, "5939915bc0e197e39c1c5478fb78f7f81becd9063b1701f822a381010f52ff36") true
    said (fun _ h => by cases h) (by kernel_rfl) (fun _ h => by cases h) fnExactReadOps_row_tie rfl ⟨rfl, rfl⟩ (by kernel_rfl) rfl
    (fun f fn hf hfn => by
      obtain rfl : f = 6 := Option.some.inj ((show Tryd.prog.funcNamed "loop.example/g00850/laws.FnExactReadOps" = some 6 by kernel_rfl).symm.trans hf) |>.symm
      obtain rfl : fn = Tryd.f6 := (Option.some.inj (Tryd.func6.symm.trans hfn)).symm
      exact ⟨by kernel_rfl, fun j t ht => by
        rw [Tryd.params6] at ht
        have hm : t ∈ [9] := by simpa using Array.mem_of_getElem? ht
        have hall : ([9].all fun u => !Tryd.prog.wantsStandIn u) = true := by kernel_rfl
        exact (show Tryd.prog.wantsStandIn t = false by simpa using List.all_eq_true.1 hall t hm)⟩)
    (by kernel_rfl)
#print axioms holds
end Go.Proofs.YtpiheobpobclgaaDoor.fnExactReadOps
