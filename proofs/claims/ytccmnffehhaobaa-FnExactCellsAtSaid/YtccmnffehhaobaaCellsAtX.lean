/- CellsAt, both. Printed by mkfresh.py. -/
import Derived.Test.YtccmnffehhaobaaPick
import Derived.Test.YtccmnffehhaobaaAllAt
import Derived.Test.YtccmnffehhaobaaKit
namespace Go.Proofs.Ytccmnffehhaobaa
open Go.RowKit

set_option maxRecDepth 100000 in
/-- impl.CellsAt -/
theorem cellsAtX_any (v : Value) (l : List CellD) (t : Int) (hl : costCellS l ≤ 1048576) (w : World) (h : Rd Cod.cell w v l) :
    Calls Try.prog 25 #[v, .int .i64 t] w fun e w' => ∃ v', e = .returned (.tuple #[v', .bool (goodCB l && inB t 0 100000)]) ∧ Own Cod.write w' w.heap.size v' (pickL (goodCB l && inB t 0 100000) (atL t l)) ∧ Below w.heap.size w w' := by
  have Hg0 := Lib.hid (fun (W : World) (b : Below w.heap.size w W) => goodCells_any v l hl W (h.below b))
  have Hg1 := Lib.hid (fun (W : World) => isTrue_any t W)
  have Hc := Lib.hid (fun (hg : goodCB l = true) (_ : inB t 0 100000 = true) (W : World) (b : Below w.heap.size w W) => cellsAt_any v l t hl (pB_iff.1 hg) W (h.below b))
  generalize hq0 : goodCB l = q0 at *
  generalize hq1 : inB t 0 100000 = q1 at *
  generalize atL t l = res at *
  clear hq0
  clear hq1
  cases q0
  · go_enter Try.func25, Try.ntmps25
    go_wp2_with fail
    refine (Hg0.out _ (Below.refl _ _)).mono ?_
    rintro e u1 ⟨rfl, k1⟩
    have b1 := k1
    clear k1
    go_wp2
    go_ret2
    exact ⟨_, rfl, own_nil _ _ _, b1⟩
  cases q1
  · go_enter Try.func25, Try.ntmps25
    go_wp2_with fail
    refine (Hg0.out _ (Below.refl _ _)).mono ?_
    rintro e u1 ⟨rfl, k1⟩
    have b1 := k1
    clear k1
    go_wp2_with fail
    refine (Hg1.out _).mono ?_
    rintro e u2 ⟨rfl, rfl⟩
    go_wp2
    go_ret2
    exact ⟨_, rfl, own_nil _ _ _, b1⟩
  · go_enter Try.func25, Try.ntmps25
    go_wp2_with fail
    refine (Hg0.out _ (Below.refl _ _)).mono ?_
    rintro e u1 ⟨rfl, k1⟩
    have b1 := k1
    clear k1
    go_wp2_with fail
    refine (Hg1.out _).mono ?_
    rintro e u2 ⟨rfl, rfl⟩
    go_wp2_with fail
    refine (Hc.out (by first | rfl | trivial) (by first | rfl | trivial) _ b1).mono ?_
    rintro e u9 ⟨v', rfl, o9, k9⟩
    go_wp2
    go_ret2
    exact ⟨_, rfl, Own.mono o9 (b1.size), below_after k9 b1⟩

set_option maxRecDepth 100000 in
/-- spec.CellsAt -/
theorem cellsAtS_any (v : Value) (l : List CellD) (t : Int) (hl : costCellS l ≤ 1048576) (w : World) (h : Rd Cod.cell w v l) :
    Calls Try.prog 24 #[v, .int .i64 t] w fun e w' => ∃ v', e = .returned (.tuple #[v', .bool (goodCB l && inB t 0 100000)]) ∧ Own Cod.write w' w.heap.size v' (pickL (goodCB l && inB t 0 100000) (atL t l)) ∧ Below w.heap.size w w' := by
  have Hg0 := Lib.hid (fun (W : World) (b : Below w.heap.size w W) => l3Good_any v l hl W (h.below b))
  have Hg1 := Lib.hid (fun (W : World) => l2True_any t W)
  have Hc := Lib.hid (fun (_ : goodCB l = true) (_ : inB t 0 100000 = true) (W : World) (b : Below w.heap.size w W) => l3All_any v l t hl W (h.below b))
  generalize hq0 : goodCB l = q0 at *
  generalize hq1 : inB t 0 100000 = q1 at *
  generalize atL t l = res at *
  clear hq0
  clear hq1
  cases q0
  · go_enter Try.func24, Try.ntmps24
    go_wp2_with fail
    refine (Hg0.out _ (Below.refl _ _)).mono ?_
    rintro e u1 ⟨rfl, k1⟩
    have b1 := k1
    clear k1
    go_wp2
    go_ret2
    exact ⟨_, rfl, own_nil _ _ _, b1⟩
  cases q1
  · go_enter Try.func24, Try.ntmps24
    go_wp2_with fail
    refine (Hg0.out _ (Below.refl _ _)).mono ?_
    rintro e u1 ⟨rfl, k1⟩
    have b1 := k1
    clear k1
    go_wp2_with fail
    refine (Hg1.out _).mono ?_
    rintro e u2 ⟨rfl, rfl⟩
    go_wp2
    go_ret2
    exact ⟨_, rfl, own_nil _ _ _, b1⟩
  · go_enter Try.func24, Try.ntmps24
    go_wp2_with fail
    refine (Hg0.out _ (Below.refl _ _)).mono ?_
    rintro e u1 ⟨rfl, k1⟩
    have b1 := k1
    clear k1
    go_wp2_with fail
    refine (Hg1.out _).mono ?_
    rintro e u2 ⟨rfl, rfl⟩
    go_wp2_with fail
    refine (Hc.out (by first | rfl | trivial) (by first | rfl | trivial) _ b1).mono ?_
    rintro e u9 ⟨v', rfl, o9, k9⟩
    go_wp2
    go_ret2
    exact ⟨_, rfl, Own.mono o9 (b1.size), below_after k9 b1⟩


end Go.Proofs.Ytccmnffehhaobaa
