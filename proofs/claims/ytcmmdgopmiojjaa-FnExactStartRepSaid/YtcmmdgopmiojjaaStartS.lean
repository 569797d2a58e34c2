/- spec.StartRep. -/
import Derived.Test.YtcmmdgopmiojjaaGcopy
import Derived.Test.YtcmmdgopmiojjaaPick
namespace Go.Proofs.Ytcmmdgopmiojjaa
open Go.RowKit

set_option maxRecDepth 100000 in
set_option maxHeartbeats 1600000 in
/-- spec.StartRep -/
theorem startS_any (v : Value) (l : List ReplicaD) (term lead r : Int) (ht : I64 term) (hd : I64 lead) (hl : costReplicaS l ≤ 1048576) (w : World) (h : Rd Cod.replica w v l) :
    Calls Try.prog 36 #[.agg #[v, .int .i64 term, .int .i64 lead], .int .i64 r] w fun e w' => ∃ v', e = .returned (.tuple #[.agg #[v', .int .i64 (pickG (goodGB l term lead && upIs l r false) ⟨startL l r, term, lead⟩).Term, .int .i64 (pickG (goodGB l term lead && upIs l r false) ⟨startL l r, term, lead⟩).Lead], .bool (goodGB l term lead && upIs l r false)]) ∧
      Own Cod.replica w' w.heap.size v' (pickG (goodGB l term lead && upIs l r false) ⟨startL l r, term, lead⟩).Reps ∧ Below w.heap.size w w' := by
  have Hu := Lib.hid (fun (W : World) (k : Below w.heap.size w W) => l9Up_any v l term lead r false ht hd hl W (h.below k))
  have Ho := Lib.hid (fun (W : World) (k : Below w.heap.size w W) => l9Own_any v l term lead hl W (h.below k))
  have Hm : Hid (upIs l r false = true → ∃ m : Nat, r = (m : Int) ∧ m < l.length) := Lib.hid (fun hu => by
    by_cases h0 : inB r 0 ((l.length : Int) - 1) = true
    · have := inB_iff.1 h0
      exact ⟨r.toNat, by omega, by omega⟩
    · rw [upIs_out (by simpa using h0)] at hu
      cases hu)
  obtain ⟨p, c, rfl, _⟩ := h.form
  obtain ⟨n, hn⟩ : ∃ n : Nat, l.length = n := ⟨_, rfl⟩
  have Hn := Lib.hid hn
  have hnb : (n : Int) ≤ 1048576 := by unfold costReplicaS at hl; omega
  rw [hn] at Hu Ho ⊢
  clear hn hl h
  generalize hq : (goodGB l term lead && upIs l r false) = q at *
  cases q
  · clear hq
    dsimp only [pickG]
    go_enter Try.func36, Try.ntmps36
    go_wp2_with fail
    refine (Hu.out _ (by (repeat (first | (with_reducible exact Below.refl _ _) | (with_reducible refine below_setCell ?_ (by first | (simp; done) | (simp; omega) | omega)) | (with_reducible refine below_alloc _ ?_) | (with_reducible refine below_drewN ?_ _) | (with_reducible assumption) | (with_reducible refine below_after (by assumption) ?_))))).mono ?_
    rintro e w1 ⟨rfl, k1⟩
    have b1 : Below w.heap.size w w1 := below_after k1 (by (repeat (first | (with_reducible exact Below.refl _ _) | (with_reducible refine below_setCell ?_ (by first | (simp; done) | (simp; omega) | omega)) | (with_reducible refine below_alloc _ ?_) | (with_reducible refine below_drewN ?_ _) | (with_reducible assumption) | (with_reducible refine below_after (by assumption) ?_))))
    have hx1 := bcell k1
    have r0 : w1.cell? ⟨w.heap.size + 1, 0, none⟩ = some (.slice none 0 0) := by rw [hx1.1 _ _ (by first | (simp; done) | (simp; omega))]; simp [go_sem]
    have r1 : w1.cell? ⟨w.heap.size + 1, 1, none⟩ = some (.int .i64 0) := by rw [hx1.1 _ _ (by first | (simp; done) | (simp; omega))]; simp [go_sem]
    have r2 : w1.cell? ⟨w.heap.size + 1, 2, none⟩ = some (.int .i64 0) := by rw [hx1.1 _ _ (by first | (simp; done) | (simp; omega))]; simp [go_sem]
    have g0 : w1.frozen? ⟨w.heap.size + 1, 0, none⟩ = false := by rw [hx1.2 _ _ (by first | (simp; done) | (simp; omega))]; simp [go_sem]
    have g1 : w1.frozen? ⟨w.heap.size + 1, 1, none⟩ = false := by rw [hx1.2 _ _ (by first | (simp; done) | (simp; omega))]; simp [go_sem]
    have g2 : w1.frozen? ⟨w.heap.size + 1, 2, none⟩ = false := by rw [hx1.2 _ _ (by first | (simp; done) | (simp; omega))]; simp [go_sem]
    clear k1
    go_wp2
    refine bodyPost_ret (v := .tuple #[.agg #[.slice none 0 0, .int .i64 0, .int .i64 0], .bool false]) (by simp [results, Try.results36, go_sem, r0, r1, r2]) rfl ⟨_, rfl, own_nil _ _ _, by (repeat (first | (with_reducible exact Below.refl _ _) | (with_reducible refine below_setCell ?_ (by first | (simp; done) | (simp; omega) | omega)) | (with_reducible refine below_alloc _ ?_) | (with_reducible refine below_drewN ?_ _) | (with_reducible assumption) | (with_reducible refine below_after (by assumption) ?_)))⟩
  · obtain ⟨m, rfl, hml⟩ := Hm.out (by simpa using (Bool.and_eq_true _ _ ▸ hq).2)
    have Hst := Lib.hid (startL_nat hml)
    have hmn : (m : Int) < (n : Int) := by have := Hn.out; omega
    have hm0 : (0 : Int) ≤ (m : Int) := by omega
    dsimp only [pickG]
    clear hq
    go_enter Try.func36, Try.ntmps36
    go_wp2_with fail
    refine (Hu.out _ (by (repeat (first | (with_reducible exact Below.refl _ _) | (with_reducible refine below_setCell ?_ (by first | (simp; done) | (simp; omega) | omega)) | (with_reducible refine below_alloc _ ?_) | (with_reducible refine below_drewN ?_ _) | (with_reducible assumption) | (with_reducible refine below_after (by assumption) ?_))))).mono ?_
    rintro e w1 ⟨rfl, k1⟩
    have b1 : Below w.heap.size w w1 := below_after k1 (by (repeat (first | (with_reducible exact Below.refl _ _) | (with_reducible refine below_setCell ?_ (by first | (simp; done) | (simp; omega) | omega)) | (with_reducible refine below_alloc _ ?_) | (with_reducible refine below_drewN ?_ _) | (with_reducible assumption) | (with_reducible refine below_after (by assumption) ?_))))
    have hx1 := bcell k1
    have c0 : w1.cell? ⟨w.heap.size, 0, none⟩ = some (.slice p n c) := by rw [hx1.1 _ _ (by first | (simp; done) | (simp; omega))]; simp [go_sem]
    have c1 : w1.cell? ⟨w.heap.size, 1, none⟩ = some (.int .i64 term) := by rw [hx1.1 _ _ (by first | (simp; done) | (simp; omega))]; simp [go_sem]
    have c2 : w1.cell? ⟨w.heap.size, 2, none⟩ = some (.int .i64 lead) := by rw [hx1.1 _ _ (by first | (simp; done) | (simp; omega))]; simp [go_sem]
    have r0 : w1.cell? ⟨w.heap.size + 1, 0, none⟩ = some (.slice none 0 0) := by rw [hx1.1 _ _ (by first | (simp; done) | (simp; omega))]; simp [go_sem]
    have r1 : w1.cell? ⟨w.heap.size + 1, 1, none⟩ = some (.int .i64 0) := by rw [hx1.1 _ _ (by first | (simp; done) | (simp; omega))]; simp [go_sem]
    have r2 : w1.cell? ⟨w.heap.size + 1, 2, none⟩ = some (.int .i64 0) := by rw [hx1.1 _ _ (by first | (simp; done) | (simp; omega))]; simp [go_sem]
    have g0 : w1.frozen? ⟨w.heap.size + 1, 0, none⟩ = false := by rw [hx1.2 _ _ (by first | (simp; done) | (simp; omega))]; simp [go_sem]
    have g1 : w1.frozen? ⟨w.heap.size + 1, 1, none⟩ = false := by rw [hx1.2 _ _ (by first | (simp; done) | (simp; omega))]; simp [go_sem]
    have g2 : w1.frozen? ⟨w.heap.size + 1, 2, none⟩ = false := by rw [hx1.2 _ _ (by first | (simp; done) | (simp; omega))]; simp [go_sem]
    have z1 : w.heap.size + 1 < w1.heap.size := by have := k1.size; simp at this; omega
    clear k1 hx1
    go_wp2_with fail
    refine (Ho.out _ b1).mono ?_
    rintro e w2 ⟨v', rfl, o2, k2⟩
    obtain ⟨p', c', rfl⟩ := o2.form
    obtain ⟨g', o', rfl, hg1, hg2, hgf, hgc⟩ := own_atR o2 m hml
    have b2 : Below w.heap.size w w2 := below_after k2 b1
    replace r0 := cell_step k2 r0
    replace r1 := cell_step k2 r1
    replace r2 := cell_step k2 r2
    replace g0 : w2.frozen? ⟨w.heap.size + 1, 0, none⟩ = false := (k2.frozen (p := ⟨w.heap.size + 1, 0, none⟩) z1).trans g0
    replace g1 : w2.frozen? ⟨w.heap.size + 1, 1, none⟩ = false := (k2.frozen (p := ⟨w.heap.size + 1, 1, none⟩) z1).trans g1
    replace g2 : w2.frozen? ⟨w.heap.size + 1, 2, none⟩ = false := (k2.frozen (p := ⟨w.heap.size + 1, 2, none⟩) z1).trans g2
    have z2 : w1.heap.size ≤ w2.heap.size := k2.size
    have hne1 : w.heap.size + 1 ≠ g' := by omega
    have hne2 : w.heap.size + 1 ≠ w2.heap.size := by omega
    have hne3 : w2.heap.size ≠ g' := by omega
    have hn3 : l.length = n := Hn.out
    rw [hn3] at o2 ⊢
    go_upto_region 4 with fail
    obtain ⟨w3, h3⟩ : ∃ w3, w2.alloc (Obj.cells #[.slice (some ⟨g', o', none⟩) n c', .int .i64 term, .int .i64 lead] 31) = w3 := ⟨_, rfl⟩
    rw [h3]
    have o3 : Own Cod.replicaR w3 w1.heap.size (.slice (some ⟨g', o', none⟩) n c') l := h3 ▸ o2.keep (Nat.le_refl _) (keep_alloc _ (Keep.refl _ _))
    have b3 : Below w.heap.size w w3 := by rw [← h3]; (repeat (first | (with_reducible exact Below.refl _ _) | (with_reducible refine below_setCell ?_ (by first | (simp; done) | (simp; omega) | omega)) | (with_reducible refine below_alloc _ ?_) | (with_reducible refine below_drewN ?_ _) | (with_reducible assumption) | (with_reducible refine below_after (by assumption) ?_)))
    have q0 : w3.cell? ⟨w2.heap.size, 0, none⟩ = some (.slice (some ⟨g', o', none⟩) n c') := by rw [← h3]; simp [go_sem]
    have q1 : w3.cell? ⟨w2.heap.size, 1, none⟩ = some (.int .i64 term) := by rw [← h3]; simp [go_sem]
    have q2 : w3.cell? ⟨w2.heap.size, 2, none⟩ = some (.int .i64 lead) := by rw [← h3]; simp [go_sem]
    rw [← cell_alloc_old (by omega), h3] at r0 r1 r2 hgc
    rw [← frozen_alloc_old (by omega), h3] at g0 g1 g2 hgf
    clear h3 o2 k2
    go_upto_region 5 with fail
    obtain ⟨w4, h4⟩ : ∃ w4, w3.setCell ⟨g', o' + m * 3, none⟩ (.bool true) = w4 := ⟨_, rfl⟩
    rw [h4]
    have o4 : Own Cod.replicaR w4 w1.heap.size (.slice (some ⟨g', o', none⟩) n c') (startL l (m : Int)) := by
      rw [Hst.out, ← h4]
      exact own_setUp o3 m hml true
    have b4 : Below w.heap.size w w4 := by rw [← h4]; exact below_setCell b3 (by simp; omega)
    have ot : ∀ b i, b ≠ g' → w4.cell? ⟨b, i, none⟩ = w3.cell? ⟨b, i, none⟩ := fun b i hb => by rw [← h4]; exact World.cell?_setCell_other _ _ _ _ (fun e => hb (congrArg Addr.block e).symm)
    rw [← ot _ _ hne1] at r0 r1 r2
    rw [← ot _ _ hne3] at q0 q1 q2
    have of : ∀ p, w4.frozen? p = w3.frozen? p := fun p => by rw [← h4, World.frozen?_setCell]
    rw [← of] at g0 g1 g2
    clear h4 o3 b3 ot of
    go_wp2
    refine bodyPost_ret (v := .tuple #[.agg #[.slice (some ⟨g', o', none⟩) n c', .int .i64 term, .int .i64 lead], .bool true]) (by simp [results, Try.results36, go_sem, r0, r1, r2, g0, g1, g2]) rfl ⟨_, rfl, ?_, by (repeat (first | (with_reducible exact Below.refl _ _) | (with_reducible refine below_setCell ?_ (by first | (simp; done) | (simp; omega) | omega)) | (with_reducible refine below_alloc _ ?_) | (with_reducible refine below_drewN ?_ _) | (with_reducible assumption) | (with_reducible refine below_after (by assumption) ?_)))⟩
    exact (own_weakR (o4.keep (Nat.le_refl _) (by (repeat (first | (with_reducible exact Keep.refl _ _) | (with_reducible refine keep_set ?_ (by first | (simp; done) | (simp; omega) | omega)) | (with_reducible refine keep_alloc _ ?_) | (with_reducible refine keep_drewN ?_ _) | (with_reducible assumption) | (with_reducible refine keep_below (by assumption) ?_)))))).mono (by omega)

end Go.Proofs.Ytcmmdgopmiojjaa
