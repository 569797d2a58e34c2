/- GoodRec, impl, kinds 2 and 3. -/
import Derived.Test.YtogdbjalgledpaaL4Keys
import Derived.Test.YtogdbjalgledpaaGWrites2
import Derived.Test.YtogdbjalgledpaaGCell
import Derived.Deep.DeepCutAuto
namespace Go.Proofs.Ytogdbjalgledpaa
open Go.RowKit

def bareB (L : Int) (nr nw : Nat) : Bool := decide (L = 0) && (decide (nr = 0) && decide (nw = 0))
noncomputable def prepB (r : RecD) : Bool := inB r.Txn 1 60 && (inB r.Time 1 100000 && (inB r.Lead 0 3 && (decide (r.Reads.length ≤ 8) && (pB (Rising r.Reads) && (decide (r.Writes.length ≤ 8) && (goodWB r.Writes && (decide (0 < r.Reads.length + r.Writes.length) && !r.Yes)))))))
def doneB (r : RecD) : Bool := bareB r.Lead r.Reads.length r.Writes.length && (inB r.Txn 1 60 && (bif r.Yes then inB r.Time 1 100000 else decide (r.Time = 0)))
def floorB (r : RecD) : Bool := bareB r.Lead r.Reads.length r.Writes.length && (decide (r.Txn = 0) && (inB r.Time 1 100000 && !r.Yes))
/-- Whether a record is good. -/
noncomputable def goodRB (r : RecD) : Bool := bif decide (r.Kind = 1) then prepB r else bif decide (r.Kind = 2) || decide (r.Kind = 3) then doneB r else bif decide (r.Kind = 4) then floorB r else false
theorem rec_kinds (K : Int) : K = 1 ∨ (K = 2 ∨ K = 3) ∨ K = 4 ∨ (K < 1 ∨ 4 < K) := by omega
theorem goodRB_1 {r : RecD} (h : r.Kind = 1) : goodRB r = prepB r := by unfold goodRB; rw [h]; rfl
theorem goodRB_2 {r : RecD} (h : r.Kind = 2 ∨ r.Kind = 3) : goodRB r = doneB r := by unfold goodRB; rcases h with h | h <;> rw [h] <;> rfl
theorem goodRB_4 {r : RecD} (h : r.Kind = 4) : goodRB r = floorB r := by unfold goodRB; rw [h]; rfl
theorem goodRB_no {r : RecD} (h : r.Kind < 1 ∨ 4 < r.Kind) : goodRB r = false := by
  unfold goodRB
  rw [show decide (r.Kind = 1) = false from by simp; omega, show decide (r.Kind = 2) = false from by simp; omega, show decide (r.Kind = 3) = false from by simp; omega, show decide (r.Kind = 4) = false from by simp; omega]
  rfl

/-- impl.isTxn -/
theorem isTxn_any (n : Int) (w : World) : Calls Try.prog 97 #[.int .i64 n] w fun e w' => e = .returned (.bool (inB n 1 60)) ∧ w = w' := by
  go_enter Try.func97, Try.ntmps97
  go_wp2_with (go_at_call 80; refine (within_any _ _ _ _).mono ?_; rintro e w1 ⟨rfl, rfl⟩)
  go_ret
  exact ⟨rfl, rfl⟩

set_option maxRecDepth 100000 in
set_option maxHeartbeats 6400000 in
theorem goodRec_2 (K T Ti L : Int) (pr pw : Option Addr) (nr nw cr cw : Nat) (Y : Bool) (hK : K = 2 ∨ K = 3) (hnr : nr ≤ 1048576) (hnw : nw ≤ 1048576) (w : World) :
    Calls Try.prog 60 #[.agg #[.int .i64 K, .int .i64 T, .int .i64 Ti, .int .i64 L, .slice pr nr cr, .slice pw nw cw, .bool Y]] w fun e w' => e = .returned (.bool (bareB L nr nw && (inB T 1 60 && (bif Y then inB Ti 1 100000 else decide (Ti = 0))))) ∧ Below w.heap.size w w' := by
  have hnrI : (nr : Int) ≤ 1048576 := by omega
  have hnwI : (nw : Int) ≤ 1048576 := by omega
  have HT := Lib.hid (isTxn_any T)
  have HI := Lib.hid (isTime_any Ti)
  obtain ⟨G, hG⟩ : ∃ G, (bareB L nr nw && (inB T 1 60 && (bif Y then inB Ti 1 100000 else decide (Ti = 0)))) = G := ⟨_, rfl⟩
  have HG := Lib.hid hG
  rw [hG]
  clear hG
  generalize inB T 1 60 = t at *
  generalize inB Ti 1 100000 = i at *
  go_enter Try.func60, Try.ntmps60
  go_upto_region 1 with fail
  go_cut [3] (fun s wx => s = .bool (bareB L nr nw) ∧ wx = w.alloc (.cells #[.int .i64 K, .int .i64 T, .int .i64 Ti, .int .i64 L, .slice pr nr cr, .slice pw nw cw, .bool Y] 45))
  case first =>
    by_cases h1 : L = 0
    · subst h1
      by_cases h2 : nr = 0
      · subst h2
        by_cases h3 : nw = 0
        · subst h3
          go_wp2
          go_meet
          exact ⟨rfl, rfl⟩
        · have h3' : ((nw : Int) == 0) = false := by simp; omega
          have Hb : Hid (bareB 0 0 nw = false) := Lib.hid (by unfold bareB; simp [h3])
          go_wp2
          go_meet
          exact ⟨by rw [Hb.out], rfl⟩
      · have h2' : ((nr : Int) == 0) = false := by simp; omega
        have Hb : Hid (bareB 0 nr nw = false) := Lib.hid (by unfold bareB; simp [h2])
        go_wp2
        go_meet
        exact ⟨by rw [Hb.out], rfl⟩
    · have h1' : (L == 0) = false := by simpa using h1
      have Hb : Hid (bareB L nr nw = false) := Lib.hid (by unfold bareB; simp [h1])
      go_wp2
      go_meet
      exact ⟨by rw [Hb.out], rfl⟩
  case rest =>
    obtain ⟨rfl, rfl⟩ := hcut
    generalize bareB L nr nw = bb at *
    rcases hK with rfl | rfl
    all_goals
      cases bb
      · go_wp2
        go_ret
        exact ⟨ret_bool (by rw [← HG.out]; rfl), by (repeat (first | (with_reducible exact Below.refl _ _) | (with_reducible refine below_setCell ?_ (by first | (simp; done) | (simp; omega) | omega)) | (with_reducible refine below_alloc _ ?_) | (with_reducible refine below_drewN ?_ _) | (with_reducible assumption) | (with_reducible refine below_after (by assumption) ?_)))⟩
      cases t
      · go_wp2_with (go_at_call 97; refine (HT.out _).mono ?_; rintro e w1 ⟨rfl, rfl⟩)
        go_ret
        exact ⟨ret_bool (by rw [← HG.out]; rfl), by (repeat (first | (with_reducible exact Below.refl _ _) | (with_reducible refine below_setCell ?_ (by first | (simp; done) | (simp; omega) | omega)) | (with_reducible refine below_alloc _ ?_) | (with_reducible refine below_drewN ?_ _) | (with_reducible assumption) | (with_reducible refine below_after (by assumption) ?_)))⟩
      cases Y
      · by_cases hz : Ti = 0
        · subst hz
          go_wp2_with (go_at_call 97; refine (HT.out _).mono ?_; rintro e w1 ⟨rfl, rfl⟩)
          go_ret
          exact ⟨ret_bool (by rw [← HG.out]; rfl), by (repeat (first | (with_reducible exact Below.refl _ _) | (with_reducible refine below_setCell ?_ (by first | (simp; done) | (simp; omega) | omega)) | (with_reducible refine below_alloc _ ?_) | (with_reducible refine below_drewN ?_ _) | (with_reducible assumption) | (with_reducible refine below_after (by assumption) ?_)))⟩
        · have hz2 : (Ti == 0) = false := by simpa using hz
          go_wp2_with (go_at_call 97; refine (HT.out _).mono ?_; rintro e w1 ⟨rfl, rfl⟩)
          go_ret
          exact ⟨ret_bool (by rw [← HG.out]; simp [hz]), by (repeat (first | (with_reducible exact Below.refl _ _) | (with_reducible refine below_setCell ?_ (by first | (simp; done) | (simp; omega) | omega)) | (with_reducible refine below_alloc _ ?_) | (with_reducible refine below_drewN ?_ _) | (with_reducible assumption) | (with_reducible refine below_after (by assumption) ?_)))⟩
      · cases i
        · go_wp2_with (first | (go_at_call 97; refine (HT.out _).mono ?_; rintro e w1 ⟨rfl, rfl⟩) | (go_at_call 98; refine (HI.out _).mono ?_; rintro e w1 ⟨rfl, rfl⟩))
          go_ret
          exact ⟨ret_bool (by rw [← HG.out]; rfl), by (repeat (first | (with_reducible exact Below.refl _ _) | (with_reducible refine below_setCell ?_ (by first | (simp; done) | (simp; omega) | omega)) | (with_reducible refine below_alloc _ ?_) | (with_reducible refine below_drewN ?_ _) | (with_reducible assumption) | (with_reducible refine below_after (by assumption) ?_)))⟩
        · go_wp2_with (first | (go_at_call 97; refine (HT.out _).mono ?_; rintro e w1 ⟨rfl, rfl⟩) | (go_at_call 98; refine (HI.out _).mono ?_; rintro e w1 ⟨rfl, rfl⟩))
          go_ret
          exact ⟨ret_bool (by rw [← HG.out]; rfl), by (repeat (first | (with_reducible exact Below.refl _ _) | (with_reducible refine below_setCell ?_ (by first | (simp; done) | (simp; omega) | omega)) | (with_reducible refine below_alloc _ ?_) | (with_reducible refine below_drewN ?_ _) | (with_reducible assumption) | (with_reducible refine below_after (by assumption) ?_)))⟩

end Go.Proofs.Ytogdbjalgledpaa
