/- CellAt, both. Printed by mkfresh.py. -/
import Derived.Test.YtccmnffehhaobaaAt3
namespace Go.Proofs.Ytccmnffehhaobaa
open Go.RowKit

def pickT : Bool → ByteArray → ByteArray
  | true, s => s
  | false, _ => ⟨#[]⟩
noncomputable def atQ (l : List CellD) (key : ByteArray) (t : Int) : Bool := (goodCB l && keyB key) && inB t 0 100000

set_option maxRecDepth 100000 in
/-- impl.CellAt -/
theorem cellAtX_any (v : Value) (l : List CellD) (key : ByteArray) (t : Int) (hk : key.size ≤ maxLen) (hl : costCellS l ≤ 1048576) (w : World) (h : Rd Cod.cell w v l) :
    Calls Try.prog 18 #[v, .string key, .int .i64 t] w fun e w' => e = .returned (.tuple #[.string (pickT (atQ l key t) (valOf (lookP l key t))), .bool (atQ l key t && hasOf (lookP l key t)), .bool (atQ l key t)]) ∧ Below w.heap.size w w' := by
  have Hc := Lib.hid (goodCells_any v l hl w h)
  have Hd := Lib.hid (goodKey_any key hk)
  have Ht := Lib.hid (fun (W : World) => isTrue_any t W)
  have He := Lib.hid (fun (hg : goodCB l = true) (W : World) (b : Below w.heap.size w W) => cellAt_any v l key t hl (pB_iff.1 hg) W (h.below b))
  clear h hl hk
  unfold atQ
  generalize goodCB l = q1 at *
  generalize keyB key = q2 at *
  generalize inB t 0 100000 = q3 at *
  generalize valOf (lookP l key t) = s at *
  generalize hasOf (lookP l key t) = b at *
  cases q1
  · go_enter Try.func18, Try.ntmps18
    go_wp2_with fail
    refine Hc.out.mono ?_
    rintro e w1 ⟨rfl, k1⟩
    go_wp2
    go_ret3
    exact ⟨rfl, k1⟩
  cases q2
  · go_enter Try.func18, Try.ntmps18
    go_wp2_with fail
    refine Hc.out.mono ?_
    rintro e w1 ⟨rfl, k1⟩
    go_wp2_with fail
    refine (Hd.out _).mono ?_
    rintro e w2 ⟨rfl, rfl⟩
    go_wp2
    go_ret3
    exact ⟨rfl, k1⟩
  cases q3
  · go_enter Try.func18, Try.ntmps18
    go_wp2_with fail
    refine Hc.out.mono ?_
    rintro e w1 ⟨rfl, k1⟩
    go_wp2_with fail
    refine (Hd.out _).mono ?_
    rintro e w2 ⟨rfl, rfl⟩
    go_wp2_with fail
    refine (Ht.out _).mono ?_
    rintro e w3 ⟨rfl, rfl⟩
    go_wp2
    go_ret3
    exact ⟨rfl, k1⟩
  · go_enter Try.func18, Try.ntmps18
    go_wp2_with fail
    refine Hc.out.mono ?_
    rintro e w1 ⟨rfl, k1⟩
    go_wp2_with fail
    refine (Hd.out _).mono ?_
    rintro e w2 ⟨rfl, rfl⟩
    have b2 := k1
    clear k1 
    go_wp2_with fail
    refine (Ht.out _).mono ?_
    rintro e w3 ⟨rfl, rfl⟩
    go_wp2_with fail
    refine (He.out (by first | rfl | trivial) _ b2).mono ?_
    rintro e w4 ⟨rfl, k4⟩
    go_wp2
    go_ret3
    exact ⟨rfl, below_after k4 b2⟩

set_option maxRecDepth 100000 in
/-- spec.CellAt -/
theorem cellAtS_any (v : Value) (l : List CellD) (key : ByteArray) (t : Int) (hk : key.size ≤ maxLen) (hl : costCellS l ≤ 1048576) (w : World) (h : Rd Cod.cell w v l) :
    Calls Try.prog 16 #[v, .string key, .int .i64 t] w fun e w' => e = .returned (.tuple #[.string (pickT (atQ l key t) (valOf (lookP l key t))), .bool (atQ l key t && hasOf (lookP l key t)), .bool (atQ l key t)]) ∧ Below w.heap.size w w' := by
  have Hc := Lib.hid (l3Good_any v l hl w h)
  have Hd := Lib.hid (l3Key_any key hk)
  have Ht := Lib.hid (fun (W : World) => l2True_any t W)
  have He := Lib.hid (fun (hg : goodCB l = true) (W : World) (b : Below w.heap.size w W) => l3Look_any v l key t hl (pB_iff.1 hg) W (h.below b))
  clear h hl hk
  unfold atQ
  generalize goodCB l = q1 at *
  generalize keyB key = q2 at *
  generalize inB t 0 100000 = q3 at *
  generalize valOf (lookP l key t) = s at *
  generalize hasOf (lookP l key t) = b at *
  cases q1
  · go_enter Try.func16, Try.ntmps16
    go_wp2_with fail
    refine Hc.out.mono ?_
    rintro e w1 ⟨rfl, k1⟩
    go_wp2
    go_ret3
    exact ⟨rfl, k1⟩
  cases q2
  · go_enter Try.func16, Try.ntmps16
    go_wp2_with fail
    refine Hc.out.mono ?_
    rintro e w1 ⟨rfl, k1⟩
    go_wp2_with fail
    refine (Hd.out _).mono ?_
    rintro e w2 ⟨rfl, k2⟩
    go_wp2
    go_ret3
    exact ⟨rfl, (below_after k2 k1)⟩
  cases q3
  · go_enter Try.func16, Try.ntmps16
    go_wp2_with fail
    refine Hc.out.mono ?_
    rintro e w1 ⟨rfl, k1⟩
    go_wp2_with fail
    refine (Hd.out _).mono ?_
    rintro e w2 ⟨rfl, k2⟩
    go_wp2_with fail
    refine (Ht.out _).mono ?_
    rintro e w3 ⟨rfl, rfl⟩
    go_wp2
    go_ret3
    exact ⟨rfl, (below_after k2 k1)⟩
  · go_enter Try.func16, Try.ntmps16
    go_wp2_with fail
    refine Hc.out.mono ?_
    rintro e w1 ⟨rfl, k1⟩
    go_wp2_with fail
    refine (Hd.out _).mono ?_
    rintro e w2 ⟨rfl, k2⟩
    have b2 := (below_after k2 k1)
    clear k1 k2
    go_wp2_with fail
    refine (Ht.out _).mono ?_
    rintro e w3 ⟨rfl, rfl⟩
    go_wp2_with fail
    refine (He.out (by first | rfl | trivial) _ b2).mono ?_
    rintro e w4 ⟨rfl, k4⟩
    go_wp2
    go_ret3
    exact ⟨rfl, below_after k4 b2⟩

end Go.Proofs.Ytccmnffehhaobaa
