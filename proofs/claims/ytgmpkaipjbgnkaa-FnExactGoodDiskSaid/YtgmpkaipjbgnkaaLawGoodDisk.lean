/- For every input the law FnExactGoodDisk returns true, and each argument reads afterwards as it read before. No condition beside the row's own. -/
import Derived.Test.YtgmpkaipjbgnkaaDisk1
namespace Go.Proofs.Ytgmpkaipjbgnkaa.fnExactGoodDisk
open Go.ChangeShapes Go.WideShapes Go.ChangeAt Go.RowKit

theorem walk (x y : ByteArray) (hx : x.size ≤ maxLen) (hy : y.size ≤ maxLen) (w : World) : Calls Try.prog 6 #[.agg #[.string x, .string y]] w fun e w' => e = .returned (.bool true) ∧ Below w.heap.size w w' := by
  have Hs := Lib.hid (szDisk_any x y 1048576 hx hy (by omega))
  have hc : szDiskF x y 1048576 < 0 ∨ (0 ≤ szDiskF x y 1048576 ∧ x.size ≤ 1048576 ∧ y.size ≤ 1048576) := by
    unfold szDiskF
    by_cases h1 : (1048576 : Int) - x.size < 0
    · rw [if_pos h1]; omega
    · rw [if_neg h1]
      by_cases h2 : (1048576 : Int) - x.size - y.size < 0
      · rw [if_pos h2]; omega
      · rw [if_neg h2]; omega
  generalize szDiskF x y 1048576 = z at *
  have hb := Below.refl (w.alloc (.cells #[.string x, .string y] 36)).heap.size (w.alloc (.cells #[.string x, .string y] 36))
  rcases hc with hc | ⟨h0, h1, h2⟩
  · go_enter Try.func6, Try.ntmps6
    go_wp2_with (go_at_call 16; refine (Hs.out _).mono ?_; rintro e w1 ⟨rfl, k⟩; replace hb := below_after k hb; have hx := bcell hb; clear k)
    go_ret
    exact ⟨rfl, below_start _ hb⟩
  · have Hd := Lib.hid (goodDiskS_any x y (by omega) (by omega))
    have He := Lib.hid (goodDisk_any x y (by omega) (by omega))
    go_enter Try.func6, Try.ntmps6
    go_wp2_with (first | (go_at_call 16; refine (Hs.out _).mono ?_; rintro e w1 ⟨rfl, k⟩; replace hb := below_after k hb; have hx := bcell hb; clear k) | (go_at_call 18; refine (toDisk_any _ _ _).mono ?_; rintro e w1 ⟨rfl, k⟩; replace hb := below_after k hb; have hx := bcell hb; clear k) | (go_at_call 17; refine (Hd.out _).mono ?_; rintro e w1 ⟨rfl, k⟩; replace hb := below_after k hb; have hx := bcell hb; clear k) | (go_at_call 19; refine (He.out _).mono ?_; rintro e w1 ⟨rfl, k⟩; replace hb := below_after k hb; have hx := bcell hb; clear k))
    go_ret
    exact ⟨rfl, below_start _ hb⟩

/-- What the walk gives, for every argument. -/
theorem contract {H : Type} {enc : TypeId × Value → H} (W : World) (base : Nat) (args : Array Value) (ds gs : List (DataW H)) (before : List MemPlace)
    (hval : ∀ (j : Nat) t v, Try.f6.params[j]? = some t → args[j]? = some v → Value.okWide Try.prog W .any base t v)
    (hW : DataW.Whole enc Try.prog Try.f6.params.toList Rows.fnExactGoodDiskSpec.vars false W args.toList ds gs before) :
    Calls Try.prog 6 args W fun e W' => e = .returned (.bool true) ∧ Below W.heap.size W W' := by
  obtain ⟨p, q, hA0, _, _, _, _⟩ := hW
  have hA : DataW.TrodAll enc Try.prog W 0 (fun _ => true) true Try.f6.params.toList args.toList ds p := hA0
  rw [Try.params6] at hA hval
  clear hA0
  obtain ⟨v0, d0, rfl, rfl, h0⟩ := trodAll_one hA
  obtain ⟨x0, y0, rfl, bx0, by0⟩ := arg_disk (hval 0 36 _ rfl rfl) h0
  exact walk _ _ bx0 by0 _


set_option maxRecDepth 100000 in
theorem lifted (os : Os) (started : os.Started) (H : Type) (enc : TypeId × Value → H) :
    ReturnsInHanded {} Try.checked os 6 .any (Rows.fnExactGoodDiskSpec.pre6 enc Try.prog Try.f6 Rows.fnExactGoodDiskRow.domain false) (Rows.fnExactGoodDiskSpec.post enc Try.prog Try.f6 false true false false) := by
  refine returnsInHanded_of_change (C := Try.checked) own started (by kernel_rfl) Try.func6
    (ChangeSpec.witness6 (enc := enc) (C := Try.checked) false ⟨#[], #[.agg #[.string ByteArray.empty, .string ByteArray.empty]], []⟩ 8 (by kernel_rfl) (by kernel_rfl) (by kernel_rfl) (by kernel_rfl)) ?_
  intro W base args ds gs before hval hW _ _
  refine (contract W base args ds gs before hval hW).mono fun e W' ⟨he, hb⟩ => ⟨_, he, ?_⟩
  exact law_post laidOut (by kernel_rfl) rfl Try.underlying4 rfl (fun xs hx => by
    match xs, hx with
    | [d0], _ => rfl) hW hb

theorem holds : Rows.FnExactGoodDiskSaid :=
  OpenClaim.holds_of_wide 6 Try.f6 rfl rfl rfl rfl rfl rfl rfl ⟨rfl, rfl, rfl, rfl, rfl⟩ rfl rfl rfl rfl rfl (by kernel_rfl) Try.func6 (by kernel_rfl)
    (of_decide_eq_true (by kernel_rfl)) (by unfold Func.isWrapper; first | (rw [if_pos (by decide +kernel)]; kernel_rfl) | (rw [if_neg (by decide +kernel)]; exact ⟨rfl, rfl⟩))
    (fun os started H enc _ => lifted os started H enc)
#print axioms holds
end Go.Proofs.Ytgmpkaipjbgnkaa.fnExactGoodDisk
