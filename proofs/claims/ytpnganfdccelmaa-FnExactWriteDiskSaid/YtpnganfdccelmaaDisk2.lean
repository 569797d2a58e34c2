/- Disks: written, made durable, fallen. -/
import Derived.Test.YtpnganfdccelmaaDisk1
import Derived.Test.YtpnganfdccelmaaBytes2
namespace Go.Proofs.Ytpnganfdccelmaa
open Go.RowKit

/-- x, where q says so; else nothing. -/
def pickB : Bool → ByteArray → ByteArray
  | true, x => x
  | false, _ => ⟨#[]⟩
@[simp] theorem pickB_true (x : ByteArray) : pickB true x = x := rfl
@[simp] theorem pickB_false (x : ByteArray) : pickB false x = ⟨#[]⟩ := rfl

/-- laws.eqDisk -/
theorem eqDisk_same (x y : ByteArray) (w : World) : Calls Try.prog 33 #[.agg #[.string x, .string y], .agg #[.string x, .string y]] w fun e w' => e = .returned (.bool true) ∧ Below w.heap.size w w' := by
  go_enter Try.func33, Try.ntmps33
  go_wp2
  go_ret
  exact ⟨rfl, below_alloc _ (below_new _ _)⟩

/-- impl.ifDisk -/
theorem ifDisk_any (x y : ByteArray) (hx : x.size ≤ 1099511627776) (hy : y.size ≤ 1099511627776) (w : World) :
    Calls Try.prog 58 #[.agg #[.string x, .string y]] w fun e w' => e = .returned (.tuple #[.agg #[.string (pickB (diskB x y) (x)), .string (pickB (diskB x y) (y))], .bool (diskB x y)]) ∧ Below w.heap.size w w' := by
  have Hc := Lib.hid (goodDisk_any x y hx hy)
  generalize diskB x y = q at *
  clear hx hy
  cases q
  · go_enter Try.func58, Try.ntmps58
    go_wp2_with (go_at_call 63; refine (Hc.out _).mono ?_; rintro e w1 ⟨rfl, k⟩; have hx := bcell k; have hz := k.size)
    refine bodyPost_ret (v := .tuple #[.agg #[.string ⟨#[]⟩, .string ⟨#[]⟩], .bool false]) (by simp [results, Try.results58, go_sem, hx.1]) rfl ⟨rfl, ?_⟩
    (repeat (first | exact Below.refl _ _ | exact below_new _ _ | refine below_setCell ?_ (by first | (simp; done) | (simp; omega) | omega) | refine below_alloc _ ?_ | refine below_drewN ?_ _ | refine below_after (by assumption) ?_ | assumption))
  · go_enter Try.func58, Try.ntmps58
    go_wp2_with (go_at_call 63; refine (Hc.out _).mono ?_; rintro e w1 ⟨rfl, k⟩; have hx := bcell k; have hz := k.size)
    refine bodyPost_ret (v := .tuple #[.agg #[.string x, .string y], .bool true]) (by simp [results, Try.results58, go_sem, hx.1]) rfl ⟨rfl, ?_⟩
    (repeat (first | exact Below.refl _ _ | exact below_new _ _ | refine below_setCell ?_ (by first | (simp; done) | (simp; omega) | omega) | refine below_alloc _ ?_ | refine below_drewN ?_ _ | refine below_after (by assumption) ?_ | assumption))

theorem size_append (x y : ByteArray) : (x ++ y).size = x.size + y.size := by simp

/-- impl.SyncDisk -/
theorem syncDisk_any (x y : ByteArray) (hx : x.size ≤ 1048576) (hy : y.size ≤ 1048576) (w : World) :
    Calls Try.prog 32 #[.agg #[.string x, .string y]] w fun e w' => e = .returned (.tuple #[.agg #[.string (pickB (diskB x y) (x ++ y)), .string ⟨#[]⟩], .bool (diskB x y)]) ∧ Below w.heap.size w w' := by
  have hadd := fun W => run_string_add_sum (P := Try.prog) (w := W) x y (by omega)
  have hq : diskB (x ++ y) ⟨#[]⟩ = diskB x y := by unfold diskB; rw [size_append]; rfl
  have Hc := Lib.hid (ifDisk_any (x ++ y) ⟨#[]⟩ (by rw [size_append]; omega) (by show 0 ≤ _; omega))
  rw [hq] at Hc
  clear hq
  generalize diskB x y = q at *
  cases q
  · go_enter Try.func32, Try.ntmps32
    go_wp2_with (go_at_call 58; refine (Hc.out _).mono ?_; rintro e w1 ⟨rfl, k⟩; have hx := bcell k; have hz := k.size)
    refine bodyPost_ret (v := .tuple #[.agg #[.string ⟨#[]⟩, .string ⟨#[]⟩], .bool false]) (by simp [results, Try.results32, go_sem, hx.1]) rfl ⟨rfl, ?_⟩
    (repeat (first | exact Below.refl _ _ | exact below_new _ _ | refine below_setCell ?_ (by first | (simp; done) | (simp; omega) | omega) | refine below_alloc _ ?_ | refine below_drewN ?_ _ | refine below_after (by assumption) ?_ | assumption))
  · go_enter Try.func32, Try.ntmps32
    go_wp2_with (go_at_call 58; refine (Hc.out _).mono ?_; rintro e w1 ⟨rfl, k⟩; have hx := bcell k; have hz := k.size)
    refine bodyPost_ret (v := .tuple #[.agg #[.string (x ++ y), .string ⟨#[]⟩], .bool true]) (by simp [results, Try.results32, go_sem, hx.1]) rfl ⟨rfl, ?_⟩
    (repeat (first | exact Below.refl _ _ | exact below_new _ _ | refine below_setCell ?_ (by first | (simp; done) | (simp; omega) | omega) | refine below_alloc _ ?_ | refine below_drewN ?_ _ | refine below_after (by assumption) ?_ | assumption))

/-- spec.SyncDisk -/
theorem syncDiskS_any (x y : ByteArray) (hx : x.size ≤ 1048576) (hy : y.size ≤ 1048576) (w : World) :
    Calls Try.prog 30 #[.agg #[.string x, .string y]] w fun e w' => e = .returned (.tuple #[.agg #[.string (pickB (diskB x y) (x ++ y)), .string ⟨#[]⟩], .bool (diskB x y)]) ∧ Below w.heap.size w w' := by
  have hadd := fun W => run_string_add_sum (P := Try.prog) (w := W) x y (by omega)
  have Hc := Lib.hid (goodDiskS_any x y (by omega) (by omega))
  generalize diskB x y = q at *
  cases q
  · go_enter Try.func30, Try.ntmps30
    go_wp2_with (go_at_call 57; refine (Hc.out _).mono ?_; rintro e w1 ⟨rfl, k⟩; have hx := bcell k; have hz := k.size)
    refine bodyPost_ret (v := .tuple #[.agg #[.string ⟨#[]⟩, .string ⟨#[]⟩], .bool false]) (by simp [results, Try.results30, go_sem, hx.1]) rfl ⟨rfl, ?_⟩
    (repeat (first | exact Below.refl _ _ | exact below_new _ _ | refine below_setCell ?_ (by first | (simp; done) | (simp; omega) | omega) | refine below_alloc _ ?_ | refine below_drewN ?_ _ | refine below_after (by assumption) ?_ | assumption))
  · go_enter Try.func30, Try.ntmps30
    go_wp2_with (go_at_call 57; refine (Hc.out _).mono ?_; rintro e w1 ⟨rfl, k⟩; have hx := bcell k; have hz := k.size)
    refine bodyPost_ret (v := .tuple #[.agg #[.string (x ++ y), .string ⟨#[]⟩], .bool true]) (by simp [results, Try.results30, go_sem, hx.1]) rfl ⟨rfl, ?_⟩
    (repeat (first | exact Below.refl _ _ | exact below_new _ _ | refine below_setCell ?_ (by first | (simp; done) | (simp; omega) | omega) | refine below_alloc _ ?_ | refine below_drewN ?_ _ | refine below_after (by assumption) ?_ | assumption))

end Go.Proofs.Ytpnganfdccelmaa
