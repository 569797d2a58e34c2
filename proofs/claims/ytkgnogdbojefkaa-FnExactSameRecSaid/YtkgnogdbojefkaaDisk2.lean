/- Disks: written, made durable, fallen. -/
import Derived.Test.YtkgnogdbojefkaaDisk1
import Derived.Test.YtkgnogdbojefkaaBytes2
namespace Go.Proofs.Ytkgnogdbojefkaa
open Go.RowKit

/-- x, where q says so; else nothing. -/
def pickB : Bool → ByteArray → ByteArray
  | true, x => x
  | false, _ => ⟨#[]⟩
@[simp] theorem pickB_true (x : ByteArray) : pickB true x = x := rfl
@[simp] theorem pickB_false (x : ByteArray) : pickB false x = ⟨#[]⟩ := rfl

/-- laws.eqDisk -/
theorem eqDisk_same (x y : ByteArray) (w : World) : Calls Try.prog 60 #[.agg #[.string x, .string y], .agg #[.string x, .string y]] w fun e w' => e = .returned (.bool true) ∧ Below w.heap.size w w' := by
  go_enter Try.func60, Try.ntmps60
  go_wp2
  go_ret
  exact ⟨rfl, below_alloc _ (below_new _ _)⟩

/-- impl.ifDisk -/
theorem ifDisk_any (x y : ByteArray) (hx : x.size ≤ 1099511627776) (hy : y.size ≤ 1099511627776) (w : World) :
    Calls Try.prog 125 #[.agg #[.string x, .string y]] w fun e w' => e = .returned (.tuple #[.agg #[.string (pickB (diskB x y) (x)), .string (pickB (diskB x y) (y))], .bool (diskB x y)]) ∧ Below w.heap.size w w' := by
  have Hc := Lib.hid (goodDisk_any x y hx hy)
  generalize diskB x y = q at *
  clear hx hy
  cases q
  · go_enter Try.func125, Try.ntmps125
    go_wp2_with (go_at_call 124; refine (Hc.out _).mono ?_; rintro e w1 ⟨rfl, k⟩; have hx := bcell k; have hz := k.size)
    refine bodyPost_ret (v := .tuple #[.agg #[.string ⟨#[]⟩, .string ⟨#[]⟩], .bool false]) (by simp [results, Try.results125, go_sem, hx.1]) rfl ⟨rfl, ?_⟩
    (repeat (first | exact Below.refl _ _ | exact below_new _ _ | refine below_setCell ?_ (by first | (simp; done) | (simp; omega) | omega) | refine below_alloc _ ?_ | refine below_drewN ?_ _ | refine below_after (by assumption) ?_ | assumption))
  · go_enter Try.func125, Try.ntmps125
    go_wp2_with (go_at_call 124; refine (Hc.out _).mono ?_; rintro e w1 ⟨rfl, k⟩; have hx := bcell k; have hz := k.size)
    refine bodyPost_ret (v := .tuple #[.agg #[.string x, .string y], .bool true]) (by simp [results, Try.results125, go_sem, hx.1]) rfl ⟨rfl, ?_⟩
    (repeat (first | exact Below.refl _ _ | exact below_new _ _ | refine below_setCell ?_ (by first | (simp; done) | (simp; omega) | omega) | refine below_alloc _ ?_ | refine below_drewN ?_ _ | refine below_after (by assumption) ?_ | assumption))

theorem size_append (x y : ByteArray) : (x ++ y).size = x.size + y.size := by simp

/-- impl.SyncDisk -/
theorem syncDisk_any (x y : ByteArray) (hx : x.size ≤ 1048576) (hy : y.size ≤ 1048576) (w : World) :
    Calls Try.prog 66 #[.agg #[.string x, .string y]] w fun e w' => e = .returned (.tuple #[.agg #[.string (pickB (diskB x y) (x ++ y)), .string ⟨#[]⟩], .bool (diskB x y)]) ∧ Below w.heap.size w w' := by
  have hadd := fun W => run_string_add_sum (P := Try.prog) (w := W) x y (by omega)
  have hq : diskB (x ++ y) ⟨#[]⟩ = diskB x y := by unfold diskB; rw [size_append]; rfl
  have Hc := Lib.hid (ifDisk_any (x ++ y) ⟨#[]⟩ (by rw [size_append]; omega) (by show 0 ≤ _; omega))
  rw [hq] at Hc
  clear hq
  generalize diskB x y = q at *
  cases q
  · go_enter Try.func66, Try.ntmps66
    go_wp2_with (go_at_call 125; refine (Hc.out _).mono ?_; rintro e w1 ⟨rfl, k⟩; have hx := bcell k; have hz := k.size)
    refine bodyPost_ret (v := .tuple #[.agg #[.string ⟨#[]⟩, .string ⟨#[]⟩], .bool false]) (by simp [results, Try.results66, go_sem, hx.1]) rfl ⟨rfl, ?_⟩
    (repeat (first | exact Below.refl _ _ | exact below_new _ _ | refine below_setCell ?_ (by first | (simp; done) | (simp; omega) | omega) | refine below_alloc _ ?_ | refine below_drewN ?_ _ | refine below_after (by assumption) ?_ | assumption))
  · go_enter Try.func66, Try.ntmps66
    go_wp2_with (go_at_call 125; refine (Hc.out _).mono ?_; rintro e w1 ⟨rfl, k⟩; have hx := bcell k; have hz := k.size)
    refine bodyPost_ret (v := .tuple #[.agg #[.string (x ++ y), .string ⟨#[]⟩], .bool true]) (by simp [results, Try.results66, go_sem, hx.1]) rfl ⟨rfl, ?_⟩
    (repeat (first | exact Below.refl _ _ | exact below_new _ _ | refine below_setCell ?_ (by first | (simp; done) | (simp; omega) | omega) | refine below_alloc _ ?_ | refine below_drewN ?_ _ | refine below_after (by assumption) ?_ | assumption))

end Go.Proofs.Ytkgnogdbojefkaa
