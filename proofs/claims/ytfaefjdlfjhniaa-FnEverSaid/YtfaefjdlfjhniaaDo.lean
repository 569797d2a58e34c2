/- impl.doGroup: one act. Printed by mkplay.py. -/
import Derived.Test.YtfaefjdlfjhniaaCrashb
import Derived.Test.YtfaefjdlfjhniaaElectb
import Derived.Test.YtfaefjdlfjhniaaStartb
import Derived.Test.YtfaefjdlfjhniaaPutentb
import Derived.Test.YtfaefjdlfjhniaaCopytob
import Derived.Test.YtfaefjdlfjhniaaAdvb
import Derived.Test.YtfaefjdlfjhniaaPlayL
namespace Go.Proofs.Ytfaefjdlfjhniaa
open Go.RowKit

set_option maxRecDepth 100000 in
set_option maxHeartbeats 3200000 in
theorem do_1 (p : Option Addr) (n c : Nat) (t d r : Int) (y : RecD) (q : Bool) (g : GroupD) (w : World) (h : ∀ W, Below w.heap.size w W → Calls Try.prog 9 #[.agg #[.slice p n c, .int .i64 t, .int .i64 d], .int .i64 r] W (RetQ W q g)) :
    Calls Try.prog 41 #[.agg #[.slice p n c, .int .i64 t, .int .i64 d], actV 1 r y] w (RetQ w q g) := by
  have HC := Lib.hid h
  clear h
  unfold actV RetQ at *
  generalize pickG q g = G at *
  rw [show ((1 : Nat) : Int) = 1 from rfl]
  go_enter Try.func41, Try.ntmps41
  go_wp2_with fail
  refine (HC.out _ (by (repeat (first | (with_reducible exact Below.refl _ _) | (with_reducible refine below_setCell ?_ (by first | (simp; done) | (simp; omega) | omega)) | (with_reducible refine below_alloc _ ?_) | (with_reducible refine below_drewN ?_ _) | (with_reducible assumption) | (with_reducible refine below_after (by assumption) ?_))))).mono ?_
  rintro e w1 ⟨p', c', rfl, o1, k1⟩
  have b1 : Below w.heap.size w w1 := below_after k1 (by (repeat (first | (with_reducible exact Below.refl _ _) | (with_reducible refine below_setCell ?_ (by first | (simp; done) | (simp; omega) | omega)) | (with_reducible refine below_alloc _ ?_) | (with_reducible refine below_drewN ?_ _) | (with_reducible assumption) | (with_reducible refine below_after (by assumption) ?_))))
  have hx1 := bcell k1
  have r0 : w1.cell? ⟨w.heap.size + 1 + 1, 0, none⟩ = some (.slice none 0 0) := by rw [hx1.1 _ _ (by first | (simp; done) | (simp; omega))]; simp [go_sem]
  have r1 : w1.cell? ⟨w.heap.size + 1 + 1, 1, none⟩ = some (.int .i64 0) := by rw [hx1.1 _ _ (by first | (simp; done) | (simp; omega))]; simp [go_sem]
  have r2 : w1.cell? ⟨w.heap.size + 1 + 1, 2, none⟩ = some (.int .i64 0) := by rw [hx1.1 _ _ (by first | (simp; done) | (simp; omega))]; simp [go_sem]
  have g0 : w1.frozen? ⟨w.heap.size + 1 + 1, 0, none⟩ = false := by rw [hx1.2 _ _ (by first | (simp; done) | (simp; omega))]; simp [go_sem]
  have g1 : w1.frozen? ⟨w.heap.size + 1 + 1, 1, none⟩ = false := by rw [hx1.2 _ _ (by first | (simp; done) | (simp; omega))]; simp [go_sem]
  have g2 : w1.frozen? ⟨w.heap.size + 1 + 1, 2, none⟩ = false := by rw [hx1.2 _ _ (by first | (simp; done) | (simp; omega))]; simp [go_sem]
  have z1 : w.heap.size + 1 + 1 < w1.heap.size := by have := k1.size; simp at this; omega
  clear k1 hx1
  go_wp2
  refine bodyPost_ret (v := .tuple #[.agg #[.slice p' G.Reps.length c', .int .i64 G.Term, .int .i64 G.Lead], .bool q]) (by simp [results, Try.results41, go_sem, r0, r1, r2]) rfl ⟨p', c', rfl, ?_, by (repeat (first | (with_reducible exact Below.refl _ _) | (with_reducible refine below_setCell ?_ (by first | (simp; done) | (simp; omega) | omega)) | (with_reducible refine below_alloc _ ?_) | (with_reducible refine below_drewN ?_ _) | (with_reducible assumption) | (with_reducible refine below_after (by assumption) ?_)))⟩
  exact (o1.keep (Nat.le_refl _) (by (repeat (first | (with_reducible exact Keep.refl _ _) | (with_reducible refine keep_set ?_ (by first | (simp; done) | (simp; omega) | omega)) | (with_reducible refine keep_alloc _ ?_) | (with_reducible refine keep_drewN ?_ _) | (with_reducible assumption) | (with_reducible refine keep_below (by assumption) ?_))))).mono (by simp; omega)

set_option maxRecDepth 100000 in
set_option maxHeartbeats 3200000 in
theorem do_2 (p : Option Addr) (n c : Nat) (t d r : Int) (y : RecD) (q : Bool) (g : GroupD) (w : World) (h : ∀ W, Below w.heap.size w W → Calls Try.prog 61 #[.agg #[.slice p n c, .int .i64 t, .int .i64 d], .int .i64 r] W (RetQ W q g)) :
    Calls Try.prog 41 #[.agg #[.slice p n c, .int .i64 t, .int .i64 d], actV 2 r y] w (RetQ w q g) := by
  have HC := Lib.hid h
  clear h
  unfold actV RetQ at *
  generalize pickG q g = G at *
  rw [show ((2 : Nat) : Int) = 2 from rfl]
  go_enter Try.func41, Try.ntmps41
  go_wp2_with fail
  refine (HC.out _ (by (repeat (first | (with_reducible exact Below.refl _ _) | (with_reducible refine below_setCell ?_ (by first | (simp; done) | (simp; omega) | omega)) | (with_reducible refine below_alloc _ ?_) | (with_reducible refine below_drewN ?_ _) | (with_reducible assumption) | (with_reducible refine below_after (by assumption) ?_))))).mono ?_
  rintro e w1 ⟨p', c', rfl, o1, k1⟩
  have b1 : Below w.heap.size w w1 := below_after k1 (by (repeat (first | (with_reducible exact Below.refl _ _) | (with_reducible refine below_setCell ?_ (by first | (simp; done) | (simp; omega) | omega)) | (with_reducible refine below_alloc _ ?_) | (with_reducible refine below_drewN ?_ _) | (with_reducible assumption) | (with_reducible refine below_after (by assumption) ?_))))
  have hx1 := bcell k1
  have r0 : w1.cell? ⟨w.heap.size + 1 + 1, 0, none⟩ = some (.slice none 0 0) := by rw [hx1.1 _ _ (by first | (simp; done) | (simp; omega))]; simp [go_sem]
  have r1 : w1.cell? ⟨w.heap.size + 1 + 1, 1, none⟩ = some (.int .i64 0) := by rw [hx1.1 _ _ (by first | (simp; done) | (simp; omega))]; simp [go_sem]
  have r2 : w1.cell? ⟨w.heap.size + 1 + 1, 2, none⟩ = some (.int .i64 0) := by rw [hx1.1 _ _ (by first | (simp; done) | (simp; omega))]; simp [go_sem]
  have g0 : w1.frozen? ⟨w.heap.size + 1 + 1, 0, none⟩ = false := by rw [hx1.2 _ _ (by first | (simp; done) | (simp; omega))]; simp [go_sem]
  have g1 : w1.frozen? ⟨w.heap.size + 1 + 1, 1, none⟩ = false := by rw [hx1.2 _ _ (by first | (simp; done) | (simp; omega))]; simp [go_sem]
  have g2 : w1.frozen? ⟨w.heap.size + 1 + 1, 2, none⟩ = false := by rw [hx1.2 _ _ (by first | (simp; done) | (simp; omega))]; simp [go_sem]
  have z1 : w.heap.size + 1 + 1 < w1.heap.size := by have := k1.size; simp at this; omega
  clear k1 hx1
  go_wp2
  refine bodyPost_ret (v := .tuple #[.agg #[.slice p' G.Reps.length c', .int .i64 G.Term, .int .i64 G.Lead], .bool q]) (by simp [results, Try.results41, go_sem, r0, r1, r2]) rfl ⟨p', c', rfl, ?_, by (repeat (first | (with_reducible exact Below.refl _ _) | (with_reducible refine below_setCell ?_ (by first | (simp; done) | (simp; omega) | omega)) | (with_reducible refine below_alloc _ ?_) | (with_reducible refine below_drewN ?_ _) | (with_reducible assumption) | (with_reducible refine below_after (by assumption) ?_)))⟩
  exact (o1.keep (Nat.le_refl _) (by (repeat (first | (with_reducible exact Keep.refl _ _) | (with_reducible refine keep_set ?_ (by first | (simp; done) | (simp; omega) | omega)) | (with_reducible refine keep_alloc _ ?_) | (with_reducible refine keep_drewN ?_ _) | (with_reducible assumption) | (with_reducible refine keep_below (by assumption) ?_))))).mono (by simp; omega)

set_option maxRecDepth 100000 in
set_option maxHeartbeats 3200000 in
theorem do_3 (p : Option Addr) (n c : Nat) (t d r : Int) (y : RecD) (q : Bool) (g : GroupD) (w : World) (h : ∀ W, Below w.heap.size w W → Calls Try.prog 10 #[.agg #[.slice p n c, .int .i64 t, .int .i64 d], .int .i64 r] W (RetQ W q g)) :
    Calls Try.prog 41 #[.agg #[.slice p n c, .int .i64 t, .int .i64 d], actV 3 r y] w (RetQ w q g) := by
  have HC := Lib.hid h
  clear h
  unfold actV RetQ at *
  generalize pickG q g = G at *
  rw [show ((3 : Nat) : Int) = 3 from rfl]
  go_enter Try.func41, Try.ntmps41
  go_wp2_with fail
  refine (HC.out _ (by (repeat (first | (with_reducible exact Below.refl _ _) | (with_reducible refine below_setCell ?_ (by first | (simp; done) | (simp; omega) | omega)) | (with_reducible refine below_alloc _ ?_) | (with_reducible refine below_drewN ?_ _) | (with_reducible assumption) | (with_reducible refine below_after (by assumption) ?_))))).mono ?_
  rintro e w1 ⟨p', c', rfl, o1, k1⟩
  have b1 : Below w.heap.size w w1 := below_after k1 (by (repeat (first | (with_reducible exact Below.refl _ _) | (with_reducible refine below_setCell ?_ (by first | (simp; done) | (simp; omega) | omega)) | (with_reducible refine below_alloc _ ?_) | (with_reducible refine below_drewN ?_ _) | (with_reducible assumption) | (with_reducible refine below_after (by assumption) ?_))))
  have hx1 := bcell k1
  have r0 : w1.cell? ⟨w.heap.size + 1 + 1, 0, none⟩ = some (.slice none 0 0) := by rw [hx1.1 _ _ (by first | (simp; done) | (simp; omega))]; simp [go_sem]
  have r1 : w1.cell? ⟨w.heap.size + 1 + 1, 1, none⟩ = some (.int .i64 0) := by rw [hx1.1 _ _ (by first | (simp; done) | (simp; omega))]; simp [go_sem]
  have r2 : w1.cell? ⟨w.heap.size + 1 + 1, 2, none⟩ = some (.int .i64 0) := by rw [hx1.1 _ _ (by first | (simp; done) | (simp; omega))]; simp [go_sem]
  have g0 : w1.frozen? ⟨w.heap.size + 1 + 1, 0, none⟩ = false := by rw [hx1.2 _ _ (by first | (simp; done) | (simp; omega))]; simp [go_sem]
  have g1 : w1.frozen? ⟨w.heap.size + 1 + 1, 1, none⟩ = false := by rw [hx1.2 _ _ (by first | (simp; done) | (simp; omega))]; simp [go_sem]
  have g2 : w1.frozen? ⟨w.heap.size + 1 + 1, 2, none⟩ = false := by rw [hx1.2 _ _ (by first | (simp; done) | (simp; omega))]; simp [go_sem]
  have z1 : w.heap.size + 1 + 1 < w1.heap.size := by have := k1.size; simp at this; omega
  clear k1 hx1
  go_wp2
  refine bodyPost_ret (v := .tuple #[.agg #[.slice p' G.Reps.length c', .int .i64 G.Term, .int .i64 G.Lead], .bool q]) (by simp [results, Try.results41, go_sem, r0, r1, r2]) rfl ⟨p', c', rfl, ?_, by (repeat (first | (with_reducible exact Below.refl _ _) | (with_reducible refine below_setCell ?_ (by first | (simp; done) | (simp; omega) | omega)) | (with_reducible refine below_alloc _ ?_) | (with_reducible refine below_drewN ?_ _) | (with_reducible assumption) | (with_reducible refine below_after (by assumption) ?_)))⟩
  exact (o1.keep (Nat.le_refl _) (by (repeat (first | (with_reducible exact Keep.refl _ _) | (with_reducible refine keep_set ?_ (by first | (simp; done) | (simp; omega) | omega)) | (with_reducible refine keep_alloc _ ?_) | (with_reducible refine keep_drewN ?_ _) | (with_reducible assumption) | (with_reducible refine keep_below (by assumption) ?_))))).mono (by simp; omega)

set_option maxRecDepth 100000 in
set_option maxHeartbeats 3200000 in
theorem do_4 (p : Option Addr) (n c : Nat) (t d r : Int) (y : RecD) (q : Bool) (g : GroupD) (w : World) (h : ∀ W, Below w.heap.size w W → Calls Try.prog 13 #[.agg #[.slice p n c, .int .i64 t, .int .i64 d], .agg #[.int .i64 y.Kind, .int .i64 y.Txn, .int .i64 y.Time, .int .i64 y.Lead, .slice none 0 0, .slice none 0 0, .bool y.Yes]] W (RetQ W q g)) :
    Calls Try.prog 41 #[.agg #[.slice p n c, .int .i64 t, .int .i64 d], actV 4 r y] w (RetQ w q g) := by
  have HC := Lib.hid h
  clear h
  unfold actV RetQ at *
  generalize pickG q g = G at *
  rw [show ((4 : Nat) : Int) = 4 from rfl]
  go_enter Try.func41, Try.ntmps41
  go_wp2_with fail
  refine (HC.out _ (by (repeat (first | (with_reducible exact Below.refl _ _) | (with_reducible refine below_setCell ?_ (by first | (simp; done) | (simp; omega) | omega)) | (with_reducible refine below_alloc _ ?_) | (with_reducible refine below_drewN ?_ _) | (with_reducible assumption) | (with_reducible refine below_after (by assumption) ?_))))).mono ?_
  rintro e w1 ⟨p', c', rfl, o1, k1⟩
  have b1 : Below w.heap.size w w1 := below_after k1 (by (repeat (first | (with_reducible exact Below.refl _ _) | (with_reducible refine below_setCell ?_ (by first | (simp; done) | (simp; omega) | omega)) | (with_reducible refine below_alloc _ ?_) | (with_reducible refine below_drewN ?_ _) | (with_reducible assumption) | (with_reducible refine below_after (by assumption) ?_))))
  have hx1 := bcell k1
  have r0 : w1.cell? ⟨w.heap.size + 1 + 1, 0, none⟩ = some (.slice none 0 0) := by rw [hx1.1 _ _ (by first | (simp; done) | (simp; omega))]; simp [go_sem]
  have r1 : w1.cell? ⟨w.heap.size + 1 + 1, 1, none⟩ = some (.int .i64 0) := by rw [hx1.1 _ _ (by first | (simp; done) | (simp; omega))]; simp [go_sem]
  have r2 : w1.cell? ⟨w.heap.size + 1 + 1, 2, none⟩ = some (.int .i64 0) := by rw [hx1.1 _ _ (by first | (simp; done) | (simp; omega))]; simp [go_sem]
  have g0 : w1.frozen? ⟨w.heap.size + 1 + 1, 0, none⟩ = false := by rw [hx1.2 _ _ (by first | (simp; done) | (simp; omega))]; simp [go_sem]
  have g1 : w1.frozen? ⟨w.heap.size + 1 + 1, 1, none⟩ = false := by rw [hx1.2 _ _ (by first | (simp; done) | (simp; omega))]; simp [go_sem]
  have g2 : w1.frozen? ⟨w.heap.size + 1 + 1, 2, none⟩ = false := by rw [hx1.2 _ _ (by first | (simp; done) | (simp; omega))]; simp [go_sem]
  have z1 : w.heap.size + 1 + 1 < w1.heap.size := by have := k1.size; simp at this; omega
  clear k1 hx1
  go_wp2
  refine bodyPost_ret (v := .tuple #[.agg #[.slice p' G.Reps.length c', .int .i64 G.Term, .int .i64 G.Lead], .bool q]) (by simp [results, Try.results41, go_sem, r0, r1, r2]) rfl ⟨p', c', rfl, ?_, by (repeat (first | (with_reducible exact Below.refl _ _) | (with_reducible refine below_setCell ?_ (by first | (simp; done) | (simp; omega) | omega)) | (with_reducible refine below_alloc _ ?_) | (with_reducible refine below_drewN ?_ _) | (with_reducible assumption) | (with_reducible refine below_after (by assumption) ?_)))⟩
  exact (o1.keep (Nat.le_refl _) (by (repeat (first | (with_reducible exact Keep.refl _ _) | (with_reducible refine keep_set ?_ (by first | (simp; done) | (simp; omega) | omega)) | (with_reducible refine keep_alloc _ ?_) | (with_reducible refine keep_drewN ?_ _) | (with_reducible assumption) | (with_reducible refine keep_below (by assumption) ?_))))).mono (by simp; omega)

set_option maxRecDepth 100000 in
set_option maxHeartbeats 3200000 in
theorem do_5 (p : Option Addr) (n c : Nat) (t d r : Int) (y : RecD) (q : Bool) (g : GroupD) (w : World) (h : ∀ W, Below w.heap.size w W → Calls Try.prog 15 #[.agg #[.slice p n c, .int .i64 t, .int .i64 d], .int .i64 r] W (RetQ W q g)) :
    Calls Try.prog 41 #[.agg #[.slice p n c, .int .i64 t, .int .i64 d], actV 5 r y] w (RetQ w q g) := by
  have HC := Lib.hid h
  clear h
  unfold actV RetQ at *
  generalize pickG q g = G at *
  rw [show ((5 : Nat) : Int) = 5 from rfl]
  go_enter Try.func41, Try.ntmps41
  go_wp2_with fail
  refine (HC.out _ (by (repeat (first | (with_reducible exact Below.refl _ _) | (with_reducible refine below_setCell ?_ (by first | (simp; done) | (simp; omega) | omega)) | (with_reducible refine below_alloc _ ?_) | (with_reducible refine below_drewN ?_ _) | (with_reducible assumption) | (with_reducible refine below_after (by assumption) ?_))))).mono ?_
  rintro e w1 ⟨p', c', rfl, o1, k1⟩
  have b1 : Below w.heap.size w w1 := below_after k1 (by (repeat (first | (with_reducible exact Below.refl _ _) | (with_reducible refine below_setCell ?_ (by first | (simp; done) | (simp; omega) | omega)) | (with_reducible refine below_alloc _ ?_) | (with_reducible refine below_drewN ?_ _) | (with_reducible assumption) | (with_reducible refine below_after (by assumption) ?_))))
  have hx1 := bcell k1
  have r0 : w1.cell? ⟨w.heap.size + 1 + 1, 0, none⟩ = some (.slice none 0 0) := by rw [hx1.1 _ _ (by first | (simp; done) | (simp; omega))]; simp [go_sem]
  have r1 : w1.cell? ⟨w.heap.size + 1 + 1, 1, none⟩ = some (.int .i64 0) := by rw [hx1.1 _ _ (by first | (simp; done) | (simp; omega))]; simp [go_sem]
  have r2 : w1.cell? ⟨w.heap.size + 1 + 1, 2, none⟩ = some (.int .i64 0) := by rw [hx1.1 _ _ (by first | (simp; done) | (simp; omega))]; simp [go_sem]
  have g0 : w1.frozen? ⟨w.heap.size + 1 + 1, 0, none⟩ = false := by rw [hx1.2 _ _ (by first | (simp; done) | (simp; omega))]; simp [go_sem]
  have g1 : w1.frozen? ⟨w.heap.size + 1 + 1, 1, none⟩ = false := by rw [hx1.2 _ _ (by first | (simp; done) | (simp; omega))]; simp [go_sem]
  have g2 : w1.frozen? ⟨w.heap.size + 1 + 1, 2, none⟩ = false := by rw [hx1.2 _ _ (by first | (simp; done) | (simp; omega))]; simp [go_sem]
  have z1 : w.heap.size + 1 + 1 < w1.heap.size := by have := k1.size; simp at this; omega
  clear k1 hx1
  go_wp2
  refine bodyPost_ret (v := .tuple #[.agg #[.slice p' G.Reps.length c', .int .i64 G.Term, .int .i64 G.Lead], .bool q]) (by simp [results, Try.results41, go_sem, r0, r1, r2]) rfl ⟨p', c', rfl, ?_, by (repeat (first | (with_reducible exact Below.refl _ _) | (with_reducible refine below_setCell ?_ (by first | (simp; done) | (simp; omega) | omega)) | (with_reducible refine below_alloc _ ?_) | (with_reducible refine below_drewN ?_ _) | (with_reducible assumption) | (with_reducible refine below_after (by assumption) ?_)))⟩
  exact (o1.keep (Nat.le_refl _) (by (repeat (first | (with_reducible exact Keep.refl _ _) | (with_reducible refine keep_set ?_ (by first | (simp; done) | (simp; omega) | omega)) | (with_reducible refine keep_alloc _ ?_) | (with_reducible refine keep_drewN ?_ _) | (with_reducible assumption) | (with_reducible refine keep_below (by assumption) ?_))))).mono (by simp; omega)

set_option maxRecDepth 100000 in
set_option maxHeartbeats 3200000 in
theorem do_6 (p : Option Addr) (n c : Nat) (t d r : Int) (y : RecD) (q : Bool) (g : GroupD) (w : World) (h : ∀ W, Below w.heap.size w W → Calls Try.prog 16 #[.agg #[.slice p n c, .int .i64 t, .int .i64 d]] W (RetQ W q g)) :
    Calls Try.prog 41 #[.agg #[.slice p n c, .int .i64 t, .int .i64 d], actV 6 r y] w (RetQ w q g) := by
  have HC := Lib.hid h
  clear h
  unfold actV RetQ at *
  generalize pickG q g = G at *
  rw [show ((6 : Nat) : Int) = 6 from rfl]
  go_enter Try.func41, Try.ntmps41
  go_wp2_with fail
  refine (HC.out _ (by (repeat (first | (with_reducible exact Below.refl _ _) | (with_reducible refine below_setCell ?_ (by first | (simp; done) | (simp; omega) | omega)) | (with_reducible refine below_alloc _ ?_) | (with_reducible refine below_drewN ?_ _) | (with_reducible assumption) | (with_reducible refine below_after (by assumption) ?_))))).mono ?_
  rintro e w1 ⟨p', c', rfl, o1, k1⟩
  have b1 : Below w.heap.size w w1 := below_after k1 (by (repeat (first | (with_reducible exact Below.refl _ _) | (with_reducible refine below_setCell ?_ (by first | (simp; done) | (simp; omega) | omega)) | (with_reducible refine below_alloc _ ?_) | (with_reducible refine below_drewN ?_ _) | (with_reducible assumption) | (with_reducible refine below_after (by assumption) ?_))))
  have hx1 := bcell k1
  have r0 : w1.cell? ⟨w.heap.size + 1 + 1, 0, none⟩ = some (.slice none 0 0) := by rw [hx1.1 _ _ (by first | (simp; done) | (simp; omega))]; simp [go_sem]
  have r1 : w1.cell? ⟨w.heap.size + 1 + 1, 1, none⟩ = some (.int .i64 0) := by rw [hx1.1 _ _ (by first | (simp; done) | (simp; omega))]; simp [go_sem]
  have r2 : w1.cell? ⟨w.heap.size + 1 + 1, 2, none⟩ = some (.int .i64 0) := by rw [hx1.1 _ _ (by first | (simp; done) | (simp; omega))]; simp [go_sem]
  have g0 : w1.frozen? ⟨w.heap.size + 1 + 1, 0, none⟩ = false := by rw [hx1.2 _ _ (by first | (simp; done) | (simp; omega))]; simp [go_sem]
  have g1 : w1.frozen? ⟨w.heap.size + 1 + 1, 1, none⟩ = false := by rw [hx1.2 _ _ (by first | (simp; done) | (simp; omega))]; simp [go_sem]
  have g2 : w1.frozen? ⟨w.heap.size + 1 + 1, 2, none⟩ = false := by rw [hx1.2 _ _ (by first | (simp; done) | (simp; omega))]; simp [go_sem]
  have z1 : w.heap.size + 1 + 1 < w1.heap.size := by have := k1.size; simp at this; omega
  clear k1 hx1
  go_wp2
  refine bodyPost_ret (v := .tuple #[.agg #[.slice p' G.Reps.length c', .int .i64 G.Term, .int .i64 G.Lead], .bool q]) (by simp [results, Try.results41, go_sem, r0, r1, r2]) rfl ⟨p', c', rfl, ?_, by (repeat (first | (with_reducible exact Below.refl _ _) | (with_reducible refine below_setCell ?_ (by first | (simp; done) | (simp; omega) | omega)) | (with_reducible refine below_alloc _ ?_) | (with_reducible refine below_drewN ?_ _) | (with_reducible assumption) | (with_reducible refine below_after (by assumption) ?_)))⟩
  exact (o1.keep (Nat.le_refl _) (by (repeat (first | (with_reducible exact Keep.refl _ _) | (with_reducible refine keep_set ?_ (by first | (simp; done) | (simp; omega) | omega)) | (with_reducible refine keep_alloc _ ?_) | (with_reducible refine keep_drewN ?_ _) | (with_reducible assumption) | (with_reducible refine keep_below (by assumption) ?_))))).mono (by simp; omega)

/-- impl.doGroup at an act of a run. -/
theorem do_any (k : Nat) (hk : 1 ≤ k ∧ k ≤ 6) (p : Option Addr) (c : Nat) (l : List ReplicaD) (t d r : Int) (y : RecD) {C : List EntryD} (hR : Run ⟨l, t, d⟩ C) (hr : I64 r) (hy : y.Reads = [] ∧ y.Writes = []) (hi : I64 y.Kind ∧ I64 y.Txn ∧ I64 y.Time ∧ I64 y.Lead) (w : World) (h : Rd Cod.replica w (.slice p l.length c) l) :
    Calls Try.prog 41 #[.agg #[.slice p l.length c, .int .i64 t, .int .i64 d], actV k r y] w (RetQ w (actQ l t d k r y) (actG l t d k r y)) := by
  obtain rfl | rfl | rfl | rfl | rfl | rfl : k = 1 ∨ k = 2 ∨ k = 3 ∨ k = 4 ∨ k = 5 ∨ k = 6 := by omega
  · exact do_1 p l.length c t d r y _ _ w fun W b => retQ (crash_any _ l t d r hR.i64t hR.i64d hR.cost W (h.below b))
  · exact do_2 p l.length c t d r y _ _ w fun W b => retQ (start_any _ l t d r hR.i64t hR.i64d hR.cost W (h.below b))
  · exact do_3 p l.length c t d r y _ _ w fun W b => retQ (elect_any _ l t d r hR.i64t hR.i64d hr hR.cost W (h.below b))
  · exact do_4 p l.length c t d r y _ _ w fun W b => retQ (put_any _ l t d y hR.i64t hR.i64d hR.cost (show costRec y ≤ 1048576 from by unfold costRec; rw [hy.1, hy.2]; decide) hi.1 hi.2.1 hi.2.2.1 hi.2.2.2 W (h.below b) (.slice none 0 0) (.slice none 0 0) (by rw [hy.1]; exact (own_nil _ W 0).rd) (by rw [hy.2]; exact (own_nil _ W 0).rd))
  · exact do_5 p l.length c t d r y _ _ w fun W b => retQ (copyTo_any _ l t d r hR.i64t hR.i64d hR.cost W (h.below b))
  · exact do_6 p l.length c t d r y _ _ w fun W b => retQ (advance_any _ l t d hR.i64t hR.i64d hR.cost W (h.below b))

end Go.Proofs.Ytfaefjdlfjhniaa
