/- What the rows' laid variables give a walk. -/
import Derived.Test.YtpiheobpobclgaaGreatDoorNumF
import Derived.Test.YtpiheobpobclgaaGreatDoorRows
import Derived.Lay
import Derived.Stop.LaidErr
import Derived.Lib.LaidTab
import Derived.LaidLaws
namespace Go.Proofs.YtpiheobpobclgaaGreatDoor
open Go.ChangeShapes Go.WideShapes Go.ChangeAt Go.RowKit

theorem gPow : Tryz.prog.globalNamed "internal/strconv.uint64pow10" = some 5 := by kernel_rfl
theorem gPowT : (Tryz.prog.globals[5]?).map (·.type) = some 106 := by kernel_rfl
theorem gSyn : Tryz.prog.globalNamed "strconv.ErrSyntax" = some 3 := by kernel_rfl
theorem gSynT : (Tryz.prog.globals[3]?).map (·.type) = some 63 := by kernel_rfl
theorem gRng : Tryz.prog.globalNamed "strconv.ErrRange" = some 4 := by kernel_rfl
theorem gRngT : (Tryz.prog.globals[4]?).map (·.type) = some 63 := by kernel_rfl
theorem cells113 : Tryz.prog.cellsOf 113 = 1 := by kernel_rfl
theorem cells9 : Tryz.prog.cellsOf 9 = 1 := by kernel_rfl
theorem cells106 : Tryz.prog.cellsOf 106 = 20 := by kernel_rfl
theorem cells87 : Tryz.prog.cellsOf 87 = 1 := by kernel_rfl
theorem starErr : "*" ++ "errors.errorString" = "*errors.errorString" := by decide
theorem row111 (u : TypeId) (h : Tryz.prog.typeName? 3 u = some "*errors.errorString") : u = 111 :=
  typeName_ptr_named (nm := "errors.errorString") (by rw [starErr]; kernel_rfl) (by kernel_rfl) (by decide) u (by rw [starErr]; exact h)
theorem powTab {H : Type} : (Rows.laid_internal_strconv_uint64pow10 : DataW H) = Lib.tabData .u64 Lib.pow10Tab := rfl

theorem tabW_of {W : World} {rest : List (String × DataW Unit)} (h : laidMet Tryz.prog (("internal/strconv.uint64pow10", Rows.laid_internal_strconv_uint64pow10) :: rest) W) : TabW W := by
  rw [powTab] at h
  exact Lib.tabBelow_of_tabIs (Lib.tabIs_of_head gPow gPowT Tryz.underlying106 Tryz.underlying87 cells87 cells106 h)

theorem varBelow {W : World} {n : String} {cs : Array Value} (h : W.var? Tryz.prog n = some cs) (w' : World) (hb : Below W.heap.size W w') : w'.var? Tryz.prog n = some cs := by
  unfold World.var? at *
  cases hg : Tryz.prog.globalNamed n with
  | none => simp [hg] at h
  | some g =>
    simp only [hg, Option.bind_some] at h ⊢
    have hlt : g < W.heap.size := by
      rcases Nat.lt_or_ge g W.heap.size with h' | h'
      · exact h'
      · rw [Array.getElem?_eq_none h'] at h; simp at h
    rw [hb.block g hlt]
    exact h

theorem errW_of {W : World} {rest : List (String × DataW Unit)} (h : laidMet Tryz.prog (("strconv.ErrRange", Rows.laid_strconv_ErrRange) :: ("strconv.ErrSyntax", Rows.laid_strconv_ErrSyntax) :: rest) W) : ErrW W := by
  obtain ⟨a0, s0, hv0, _⟩ := laid_sentinel h gRng gRngT Tryz.underlying63 row111 Tryz.underlying111 Tryz.underlying113 rfl rfl Tryz.underlying9 cells113 cells9
  obtain ⟨a1, s1, hv1, _⟩ := laid_sentinel h.tail gSyn gSynT Tryz.underlying63 row111 Tryz.underlying111 Tryz.underlying113 rfl rfl Tryz.underlying9 cells113 cells9
  exact ⟨⟨_, _, varBelow hv1⟩, _, _, varBelow hv0⟩

end Go.Proofs.YtpiheobpobclgaaGreatDoor
