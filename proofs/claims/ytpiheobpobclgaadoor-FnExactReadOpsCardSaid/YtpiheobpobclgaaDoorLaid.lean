/- What the rows' laid variables give a walk. -/
import Derived.Test.YtpiheobpobclgaaDoorNumF
import Derived.Test.YtpiheobpobclgaaDoorRows
import Derived.Lay
import Derived.Stop.LaidErr
import Derived.Lib.LaidTab
import Derived.LaidLaws
namespace Go.Proofs.YtpiheobpobclgaaDoor
open Go.ChangeShapes Go.WideShapes Go.ChangeAt Go.RowKit

theorem gPow : Tryd.prog.globalNamed "internal/strconv.uint64pow10" = some 3 := by kernel_rfl
theorem gPowT : (Tryd.prog.globals[3]?).map (·.type) = some 137 := by kernel_rfl
theorem gSyn : Tryd.prog.globalNamed "strconv.ErrSyntax" = some 0 := by kernel_rfl
theorem gSynT : (Tryd.prog.globals[0]?).map (·.type) = some 77 := by kernel_rfl
theorem gRng : Tryd.prog.globalNamed "strconv.ErrRange" = some 1 := by kernel_rfl
theorem gRngT : (Tryd.prog.globals[1]?).map (·.type) = some 77 := by kernel_rfl
theorem cells144 : Tryd.prog.cellsOf 144 = 1 := by kernel_rfl
theorem cells9 : Tryd.prog.cellsOf 9 = 1 := by kernel_rfl
theorem cells137 : Tryd.prog.cellsOf 137 = 20 := by kernel_rfl
theorem cells120 : Tryd.prog.cellsOf 120 = 1 := by kernel_rfl
theorem starErr : "*" ++ "errors.errorString" = "*errors.errorString" := by decide
theorem row142 (u : TypeId) (h : Tryd.prog.typeName? 3 u = some "*errors.errorString") : u = 142 :=
  typeName_ptr_named (nm := "errors.errorString") (by rw [starErr]; kernel_rfl) (by kernel_rfl) (by decide) u (by rw [starErr]; exact h)
theorem powTab {H : Type} : (Rows.laid_internal_strconv_uint64pow10 : DataW H) = Lib.tabData .u64 Lib.pow10Tab := rfl

theorem tabW_of {W : World} {rest : List (String × DataW Unit)} (h : laidMet Tryd.prog (("internal/strconv.uint64pow10", Rows.laid_internal_strconv_uint64pow10) :: rest) W) : TabW W := by
  rw [powTab] at h
  exact Lib.tabBelow_of_tabIs (Lib.tabIs_of_head gPow gPowT Tryd.underlying137 Tryd.underlying120 cells120 cells137 h)

theorem varBelow {W : World} {n : String} {cs : Array Value} (h : W.var? Tryd.prog n = some cs) (w' : World) (hb : Below W.heap.size W w') : w'.var? Tryd.prog n = some cs := by
  unfold World.var? at *
  cases hg : Tryd.prog.globalNamed n with
  | none => simp [hg] at h
  | some g =>
    simp only [hg, Option.bind_some] at h ⊢
    have hlt : g < W.heap.size := by
      rcases Nat.lt_or_ge g W.heap.size with h' | h'
      · exact h'
      · rw [Array.getElem?_eq_none h'] at h; simp at h
    rw [hb.block g hlt]
    exact h

theorem errW_of {W : World} {rest : List (String × DataW Unit)} (h : laidMet Tryd.prog (("strconv.ErrRange", Rows.laid_strconv_ErrRange) :: ("strconv.ErrSyntax", Rows.laid_strconv_ErrSyntax) :: rest) W) : ErrW W := by
  obtain ⟨a0, s0, hv0, _⟩ := laid_sentinel h gRng gRngT Tryd.underlying77 row142 Tryd.underlying142 Tryd.underlying144 rfl rfl Tryd.underlying9 cells144 cells9
  obtain ⟨a1, s1, hv1, _⟩ := laid_sentinel h.tail gSyn gSynT Tryd.underlying77 row142 Tryd.underlying142 Tryd.underlying144 rfl rfl Tryd.underlying9 cells144 cells9
  exact ⟨⟨_, _, varBelow hv1⟩, _, _, varBelow hv0⟩

end Go.Proofs.YtpiheobpobclgaaDoor
