/- For every input the law FnExactReadRecText returns true, and the argument reads afterwards as it read before; the listed variables as the program lays them. -/
import Derived.Test.YtpiheobpobclgaaGreatDoorWalkReadRecText
import Derived.Test.YtpiheobpobclgaaGreatDoorShapedZ
import Derived.Test.YtpiheobpobclgaaGreatDoorLaidZ
import Derived.Test.YtpiheobpobclgaaGreatDoorCore
import Derived.Test.YtpiheobpobclgaaGreatDoorDArgs
import Derived.Test.YtpiheobpobclgaaGreatDoorFacts
import Derived.Test.YtpiheobpobclgaaGreatDoorTie
import Derived.Test.YtpiheobpobclgaaGreatDoorCards
import Derived.SevenTiedAt
namespace Go.Proofs.YtpiheobpobclgaaGreatDoor.fnExactReadRecText
open Go.ChangeShapes Go.WideShapes Go.ChangeAt Go.RowKit

set_option maxRecDepth 100000 in
/-- What the walk gives, for every argument. -/
theorem contract {H : Type} {enc : TypeId × Value → H} (W : World) (base : Nat) (args : Array Value) (ds gs : List (DataW H)) (before : List MemPlace)
    (hval : ∀ (j : Nat) t v, Tryz.f3.params[j]? = some t → args[j]? = some v → Value.okWide Tryz.prog W .any base t v)
    (hW : DataW.Whole enc Tryz.prog Tryz.f3.params.toList Rows.fnExactReadRecTextSpec.vars false W args.toList ds gs before)
    (hL : laidMetH Tryz.prog Rows.fnExactReadRecTextRow.laid W) (hSh : W.ShapedOpen Tryz.prog) :
    Calls Tryz.prog 3 args W fun e W' => e = .returned (.bool true) ∧ Below W.heap.size W W' := by
  obtain ⟨p, q, hA0, _, _, _, _⟩ := hW
  have hA : DataW.TrodAll enc Tryz.prog W 0 (fun _ => true) true Tryz.f3.params.toList args.toList ds p := hA0
  rw [Tryz.params3] at hA hval
  clear hA0
  obtain ⟨v0, d0, rfl, rfl, h0⟩ := trodAll_one hA
  obtain ⟨y0, rfl, by0⟩ := arg_str (hval 0 9 _ rfl rfl) h0
  rw [MakeChecks.laidMetH_plain _ _ _ (by kernel_rfl)] at hL
  exact walk (w := W) y0 by0 (tabW_of hL.tail.tail) (errW_of hL.tail.tail.tail.tail) (maxZ_of hSh)

set_option maxRecDepth 100000 in
theorem lifted (os : Os) (started : os.Started) (H : Type) (enc : TypeId × Value → H) :
    ReturnsInHanded {} Tryz.checked os 3 .any (fun w args => (Rows.fnExactReadRecTextSpec.pre enc Tryz.prog Tryz.f3 Rows.fnExactReadRecTextRow.domain false w args ∧ laidMetH Tryz.prog Rows.fnExactReadRecTextRow.laid w) ∧ sizedMet enc Tryz.prog Tryz.f3 (OpenSpec.ofChange Rows.fnExactReadRecTextSpec) false w args)
      (Rows.fnExactReadRecTextSpec.post enc Tryz.prog Tryz.f3 false true false false) := by
  refine handed_and_shaped (C := Tryz.checked) (X := fun w _ => laidMetH Tryz.prog Rows.fnExactReadRecTextRow.laid w) (fun _ _ _ hh h => h.of_heap hh) own started (by kernel_rfl) Tryz.func3
    (ChangeSpec.witness_shaped (enc := enc) (C := Tryz.checked) (os := os) (X := fun w _ => laidMetH Tryz.prog Rows.fnExactReadRecTextRow.laid w) false (World.laidAll Tryz.prog os Rows.fnExactReadRecTextRow.laid) #[.string ByteArray.empty] 8 (World.laidAll_os _ _ _)
      (World.shaped_of_ZipB (by kernel_rfl) (by kernel_rfl)) (by kernel_rfl) (by kernel_rfl) (by kernel_rfl)
      (by rw [MakeChecks.laidMetH_plain _ _ _ (by kernel_rfl)]; exact laidMet_laidAll _ (by kernel_rfl) (by kernel_rfl))) ?_
  intro W base args ds gs before hval hW hL hSh
  refine (contract W base args ds gs before hval hW hL hSh).mono fun e W' ⟨he, hb⟩ => ⟨_, he, ?_⟩
  exact law_post laidOut (by kernel_rfl) rfl Tryz.underlying4 rfl (fun xs hx => by
    match xs, hx with
    | [d0], _ => rfl) hW hb

theorem closed : joinedFacts Tryz.prog 3 Tryz.f3 Rows.fnExactReadRecTextSpec Rows.fnExactReadRecTextRow = true := by
  unfold joinedFacts
  rw [factEnter, factLifts, factMake]
  kernel_rfl

theorem said : Rows.FnExactReadRecTextSaid :=
  OpenClaim.holds_of_wide 3 Tryz.f3 rfl rfl rfl rfl rfl rfl rfl ⟨rfl, rfl, rfl, rfl, rfl⟩ rfl rfl rfl rfl rfl (by kernel_rfl) Tryz.func3 closed
    (of_decide_eq_true (by kernel_rfl)) (by unfold Func.isWrapper; first | (rw [if_pos (by decide +kernel)]; kernel_rfl) | (rw [if_neg (by decide +kernel)]; exact ⟨rfl, rfl⟩))
    (fun os started H enc _ => lifted os started H enc)

/-- The tied card. -/
theorem holds : Rows.FnExactReadRecTextCardSaid :=
  Claim7.holds_tied_plain_at .later [] [.data, .data, .data, .data, .sentinel, .sentinel, .pinned] true (true, "1fde029fcd2bc3b64e11fd77b83490aa23dce073d13f27bec9cb1ece1711bd7d") true
    said (fun _ h => by cases h) (by kernel_rfl) (fun _ h => by cases h) fnExactReadRecText_row_tie rfl ⟨rfl, rfl⟩ (by kernel_rfl) rfl
    (fun f fn hf hfn => by
      obtain rfl : f = 3 := Option.some.inj ((show Tryz.prog.funcNamed "loop.example/g00850/laws.FnExactReadRecText" = some 3 by kernel_rfl).symm.trans hf) |>.symm
      obtain rfl : fn = Tryz.f3 := (Option.some.inj (Tryz.func3.symm.trans hfn)).symm
      exact ⟨by kernel_rfl, fun j t ht => by
        rw [Tryz.params3] at ht
        have hm : t ∈ [9] := by simpa using Array.mem_of_getElem? ht
        have hall : ([9].all fun u => !Tryz.prog.wantsStandIn u) = true := by kernel_rfl
        exact (show Tryz.prog.wantsStandIn t = false by simpa using List.all_eq_true.1 hall t hm)⟩)
    (by kernel_rfl)
#print axioms holds
end Go.Proofs.YtpiheobpobclgaaGreatDoor.fnExactReadRecText
