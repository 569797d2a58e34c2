/- OpsText, both. Printed by mkopst.py. -/
import Derived.Test.YtpiheobpobclgaaDoorOpsT2
import Derived.Test.YtpiheobpobclgaaDoorOpsT3
namespace Go.Proofs.YtpiheobpobclgaaDoor
open Go.RowKit

/-- What OpsText returns. -/
def opsTR (l : List OpD) : ByteArray := bif goodOB l then opsS l else ⟨#[]⟩

set_option maxRecDepth 100000 in
set_option maxHeartbeats 1600000 in
/-- impl.OpsText -/
theorem expOpsText_any (v : Value) (l : List OpD) (hc : costOpS l ≤ 1048576) (w : World) (hTab : TabW w) (h : Rd Cod.op w v l) :
    Calls Tryd.prog 10 #[v] w fun e w' => e = .returned (.tuple #[.string (opsTR l), .bool (goodOB l)]) ∧ Below w.heap.size w w' := by
  have hln : l.length ≤ 1048576 := by unfold costOpS at hc; omega
  have Hg := Lib.hid (goodOps_any v l hln w h)
  cases hq : goodOB l
  · rw [hq] at Hg
    have hr : opsTR l = ⟨#[]⟩ := by unfold opsTR; rw [hq]; rfl
    rw [hr]
    clear hq hr h hc hln hTab
    go_enter Tryd.func10, Tryd.ntmps10
    go_wp2_with fail
    refine Hg.out.mono ?_
    rintro e w1 ⟨rfl, k1⟩
    go_wp2
    go_ret2
    exact ⟨rfl, k1⟩
  · rw [hq] at Hg
    have hr : opsTR l = opsS l := by unfold opsTR; rw [hq]; rfl
    rw [hr]
    have Hr := Lib.hid (fun (W : World) (k : Below w.heap.size w W) => opsText_any v l hc hq W (hTab.on k) (h.below k))
    clear hq hr h hc hln hTab
    generalize opsS l = out at *
    go_enter Tryd.func10, Tryd.ntmps10
    go_wp2_with fail
    refine Hg.out.mono ?_
    rintro e w1 ⟨rfl, k1⟩
    go_wp2_with fail
    refine (Hr.out _ k1).mono ?_
    rintro e w2 ⟨rfl, k2⟩
    go_wp2
    go_ret2
    exact ⟨rfl, below_after k2 k1⟩

set_option maxRecDepth 100000 in
set_option maxHeartbeats 1600000 in
/-- spec.OpsText -/
theorem expOpsTextS_any (v : Value) (l : List OpD) (hc : costOpS l ≤ 1048576) (w : World) (h : Rd Cod.op w v l) :
    Calls Tryd.prog 8 #[v] w fun e w' => e = .returned (.tuple #[.string (opsTR l), .bool (goodOB l)]) ∧ Below w.heap.size w w' := by
  have hln : l.length ≤ 1048576 := by unfold costOpS at hc; omega
  have Hg := Lib.hid (l5Good_any v l hln w h)
  cases hq : goodOB l
  · rw [hq] at Hg
    have hr : opsTR l = ⟨#[]⟩ := by unfold opsTR; rw [hq]; rfl
    rw [hr]
    clear hq hr h hc hln
    go_enter Tryd.func8, Tryd.ntmps8
    go_wp2_with fail
    refine Hg.out.mono ?_
    rintro e w1 ⟨rfl, k1⟩
    go_wp2
    go_ret2
    exact ⟨rfl, k1⟩
  · rw [hq] at Hg
    have hr : opsTR l = opsS l := by unfold opsTR; rw [hq]; rfl
    rw [hr]
    have Hr := Lib.hid (fun (W : World) (k : Below w.heap.size w W) => l5OpsText_any v l hc hq W (h.below k))
    clear hq hr h hc hln
    generalize opsS l = out at *
    go_enter Tryd.func8, Tryd.ntmps8
    go_wp2_with fail
    refine Hg.out.mono ?_
    rintro e w1 ⟨rfl, k1⟩
    go_wp2_with fail
    refine (Hr.out _ k1).mono ?_
    rintro e w2 ⟨rfl, k2⟩
    go_wp2
    go_ret2
    exact ⟨rfl, below_after k2 k1⟩

end Go.Proofs.YtpiheobpobclgaaDoor
