/- laws.eqOp, laws.eqOpS of equal data. Printed by mkdata.py. -/
import Derived.Test.YtpiheobpobclgaaDoorRowd
namespace Go.Proofs.YtpiheobpobclgaaDoor
open Go.RowKit

set_option maxRecDepth 100000 in
set_option maxHeartbeats 1600000 in
/-- laws.eqOp -/
theorem eqOp_d (x : OpD) (w : World) :
    Calls Tryd.prog 29 #[.agg #[.int .i64 x.Kind, .string x.Key, .string x.Val, .int .i64 x.By], .agg #[.int .i64 x.Kind, .string x.Key, .string x.Val, .int .i64 x.By]] w fun e w' => e = .returned (.bool true) ∧ Below w.heap.size w w' := by
  obtain ⟨xKind, xKey, xVal, xBy⟩ := x
  simp only at *
  go_enter Tryd.func29, Tryd.ntmps29
  go_wp2
  go_ret
  exact ⟨rfl, by (repeat (first | exact Below.refl _ _ | exact below_new _ _ | refine below_setCell ?_ (by first | (simp; done) | (simp; omega) | omega) | refine below_alloc _ ?_ | refine below_drewN ?_ _ | refine below_after (by assumption) ?_ | assumption))⟩

set_option maxRecDepth 100000 in
set_option maxHeartbeats 800000 in
/-- laws.eqOpS -/
theorem eqOpS_any (v1 v2 : Value) (l : List OpD) (w : World) (h1 : Rd Cod.op w v1 l) (h2 : Rd Cod.op w v2 l) (hl : l.length ≤ 1048576) :
    Calls Tryd.prog 11 #[v1, v2] w fun e w' => e = .returned (.bool true) ∧ Below w.heap.size w w' := by
  obtain ⟨p1, c1, rfl, _, _, r1⟩ := h1.form
  obtain ⟨p2, c2, rfl, _, _, r2⟩ := h2.form
  have R1 := Lib.hid r1
  have R2 := Lib.hid r2
  have Hl := Lib.hid hl
  clear r1 r2 h1 h2
  obtain ⟨n, hn⟩ : ∃ n : Nat, l.length = n := ⟨_, rfl⟩
  have Hn := Lib.hid hn
  have hnb : (n : Int) ≤ 1048576 := by omega
  rw [hn]
  clear hn hl
  go_enter Tryd.func11, Tryd.ntmps11
  go_wp2
  go_loopw [5] (fun i wr => ∃ k : Nat, i = .int .i64 (k : Int) ∧ k ≤ n ∧ Below w.heap.size w wr) (fun i _ => n - (intOf i).toNat)
  case atStart => exact ⟨0, rfl, Nat.zero_le _, Below.refl _ _⟩
  case round =>
    obtain ⟨k, rfl, hk, hb⟩ := hrel
    have hbs := hb.size
    by_cases hlt : k < n
    · have hlt2 : (k : Int) < (n : Int) := by omega
      have hkl : k < l.length := by have := Hn.out; omega
      obtain ⟨g1, o1, rfl, hg1, hc1⟩ := R1.out (by have := Hn.out; omega)
      obtain ⟨g2, o2, rfl, hg2, hc2⟩ := R2.out (by have := Hn.out; omega)
      have at1 := (hc1 k hkl).below hg1 hb
      have at2 := (hc2 k hkl).below hg2 hb
      obtain ⟨x, es⟩ : ∃ x, l[k] = x := ⟨_, rfl⟩
      rw [es] at at1 at2
      clear hc1 hc2 es hkl
      obtain ⟨ud0, ud1, ud2, ud3, zKind, zKey, zVal, zBy⟩ := at_op at1
      obtain ⟨vd0, vd1, vd2, vd3, _, _, _, _⟩ := at_op at2
      rw [show o1 + k * Cod.op.size = o1 + k * 4 from rfl, show o2 + k * Cod.op.size = o2 + k * 4 from rfl] at *
      clear at1 at2
      have hg1' : g1 < wr.heap.size := by omega
      have hg2' : g2 < wr.heap.size := by omega
      have Hd := Lib.hid (eqOp_d x)
      go_wp2_with fail
      have hx2 := fun (u : World) (b o : Nat) (h : b < wr.heap.size) => ext_cell wr u b o h
      refine wp_region_ext (by kernel_rfl) (by kernel_rfl) wr.heap.size ?_
      repeat (any_goals (go_big_quiet_step ((go_at_call 29; exact calls_ext (by first | (simp; done) | omega | (simp; omega)) (Hd.out _)))))
      refine wpQuiet_nil ?_
      intro w2 hb2
      clear hx2
      go_wp2
      go_roundw
      case rel => exact ⟨k + 1, by go_num, by omega, below_after hb2 hb⟩
      case measure => simp [intOf]; omega
    · have hlt2 : (n : Int) ≤ (k : Int) := by omega
      go_wp2
      go_ret
      exact ⟨rfl, hb⟩

end Go.Proofs.YtpiheobpobclgaaDoor
