/- Plain lemmas and contracts that all proofs of this seat lean on: bundle Startb. -/
import Derived.Test.YtfaefjdlfjhniaaGcopy
import Derived.Test.YtfaefjdlfjhniaaRowd
import Derived.Test.YtfaefjdlfjhniaaLogg
/- impl.StartRep. -/
namespace Go.Proofs.Ytfaefjdlfjhniaa
open Go.RowKit

set_option maxRecDepth 100000 in
set_option maxHeartbeats 3200000 in
/-- impl.StartRep -/
theorem start_any (v : Value) (l : List ReplicaD) (term lead r : Int) (ht : I64 term) (hd : I64 lead) (hl : costReplicaS l ≤ 1048576) (w : World) (h : Rd Cod.replica w v l) :
    Calls Try.prog 61 #[.agg #[v, .int .i64 term, .int .i64 lead], .int .i64 r] w fun e w' => ∃ v', e = .returned (.tuple #[.agg #[v', .int .i64 (pickG (goodGB l term lead && upIs l r false) ⟨startL l r, term, lead⟩).Term, .int .i64 (pickG (goodGB l term lead && upIs l r false) ⟨startL l r, term, lead⟩).Lead], .bool (goodGB l term lead && upIs l r false)]) ∧
      Own Cod.replica w' w.heap.size v' (pickG (goodGB l term lead && upIs l r false) ⟨startL l r, term, lead⟩).Reps ∧ Below w.heap.size w w' := by
  have Hg := Lib.hid (fun (W : World) (k : Below w.heap.size w W) => goodGroup_any v l term lead ht hd hl W (h.below k))
  have Ho := Lib.hid (fun (W : World) (k : Below w.heap.size w W) => copyGroup_any v l term lead hl W (h.below k))
  obtain ⟨p, c, rfl, _, _, rr⟩ := h.form
  have R := Lib.hid rr
  obtain ⟨n, hn⟩ : ∃ n : Nat, l.length = n := ⟨_, rfl⟩
  have Hn := Lib.hid hn
  have hnb : (n : Int) ≤ 1048576 := by unfold costReplicaS at hl; omega
  have Hi := Lib.hid (fun W => isRep_any p n c hnb term lead r W)
  have Hu : Hid (inB r 0 ((n : Int) - 1) = false → upIs l r false = false) := Lib.hid fun h => upIs_out (by rw [hn]; exact h) false
  rw [hn] at Hg Ho ⊢
  clear hn hl h rr
  generalize goodGB l term lead = q at *
  cases q
  · dsimp only [pickG, Bool.false_and]
    go_enter Try.func61, Try.ntmps61
    go_wp2_with fail
    refine (Hg.out _ (by (repeat (first | (with_reducible exact Below.refl _ _) | (with_reducible refine below_setCell ?_ (by first | (simp; done) | (simp; omega) | omega)) | (with_reducible refine below_alloc _ ?_) | (with_reducible refine below_drewN ?_ _) | (with_reducible assumption) | (with_reducible refine below_after (by assumption) ?_))))).mono ?_
    rintro e w1 ⟨rfl, k1⟩
    have b1 : Below w.heap.size w w1 := below_after k1 (by (repeat (first | (with_reducible exact Below.refl _ _) | (with_reducible refine below_setCell ?_ (by first | (simp; done) | (simp; omega) | omega)) | (with_reducible refine below_alloc _ ?_) | (with_reducible refine below_drewN ?_ _) | (with_reducible assumption) | (with_reducible refine below_after (by assumption) ?_))))
    have hx1 := bcell k1
    have r0 : w1.cell? ⟨w.heap.size + 1, 0, none⟩ = some (.slice none 0 0) := by rw [hx1.1 _ _ (by first | (simp; done) | (simp; omega))]; simp [go_sem]
    have r1 : w1.cell? ⟨w.heap.size + 1, 1, none⟩ = some (.int .i64 0) := by rw [hx1.1 _ _ (by first | (simp; done) | (simp; omega))]; simp [go_sem]
    have r2 : w1.cell? ⟨w.heap.size + 1, 2, none⟩ = some (.int .i64 0) := by rw [hx1.1 _ _ (by first | (simp; done) | (simp; omega))]; simp [go_sem]
    clear k1
    go_wp2
    refine bodyPost_ret (v := .tuple #[.agg #[.slice none 0 0, .int .i64 0, .int .i64 0], .bool false]) (by simp [results, Try.results61, go_sem, r0, r1, r2]) rfl ⟨_, rfl, own_nil _ _ _, by (repeat (first | (with_reducible exact Below.refl _ _) | (with_reducible refine below_setCell ?_ (by first | (simp; done) | (simp; omega) | omega)) | (with_reducible refine below_alloc _ ?_) | (with_reducible refine below_drewN ?_ _) | (with_reducible assumption) | (with_reducible refine below_after (by assumption) ?_)))⟩
  · generalize hq : inB r 0 ((n : Int) - 1) = q2 at *
    cases q2
    · have hu := Hu.out rfl
      rw [hu]
      clear hu hq
      dsimp only [pickG, Bool.and_false]
      go_enter Try.func61, Try.ntmps61
      go_wp2_with fail
      refine (Hg.out _ (by (repeat (first | (with_reducible exact Below.refl _ _) | (with_reducible refine below_setCell ?_ (by first | (simp; done) | (simp; omega) | omega)) | (with_reducible refine below_alloc _ ?_) | (with_reducible refine below_drewN ?_ _) | (with_reducible assumption) | (with_reducible refine below_after (by assumption) ?_))))).mono ?_
      rintro e w1 ⟨rfl, k1⟩
      have b1 : Below w.heap.size w w1 := below_after k1 (by (repeat (first | (with_reducible exact Below.refl _ _) | (with_reducible refine below_setCell ?_ (by first | (simp; done) | (simp; omega) | omega)) | (with_reducible refine below_alloc _ ?_) | (with_reducible refine below_drewN ?_ _) | (with_reducible assumption) | (with_reducible refine below_after (by assumption) ?_))))
      have hx1 := bcell k1
      have c0 : w1.cell? ⟨w.heap.size, 0, none⟩ = some (.slice p n c) := by rw [hx1.1 _ _ (by first | (simp; done) | (simp; omega))]; simp [go_sem]
      have c1 : w1.cell? ⟨w.heap.size, 1, none⟩ = some (.int .i64 term) := by rw [hx1.1 _ _ (by first | (simp; done) | (simp; omega))]; simp [go_sem]
      have c2 : w1.cell? ⟨w.heap.size, 2, none⟩ = some (.int .i64 lead) := by rw [hx1.1 _ _ (by first | (simp; done) | (simp; omega))]; simp [go_sem]
      have r0 : w1.cell? ⟨w.heap.size + 1, 0, none⟩ = some (.slice none 0 0) := by rw [hx1.1 _ _ (by first | (simp; done) | (simp; omega))]; simp [go_sem]
      have r1 : w1.cell? ⟨w.heap.size + 1, 1, none⟩ = some (.int .i64 0) := by rw [hx1.1 _ _ (by first | (simp; done) | (simp; omega))]; simp [go_sem]
      have r2 : w1.cell? ⟨w.heap.size + 1, 2, none⟩ = some (.int .i64 0) := by rw [hx1.1 _ _ (by first | (simp; done) | (simp; omega))]; simp [go_sem]
      have z1 : w.heap.size + 1 < w1.heap.size := by have := k1.size; simp at this; omega
      clear k1
      go_wp2_with fail
      refine (Hi.out _).mono ?_
      rintro e w2 ⟨rfl, k2⟩
      have b2 : Below w.heap.size w w2 := below_after k2 b1
      replace r0 := cell_step k2 r0
      replace r1 := cell_step k2 r1
      replace r2 := cell_step k2 r2
      have g0 : w2.frozen? ⟨w.heap.size + 1, 0, none⟩ = false := (k2.frozen (p := ⟨w.heap.size + 1, 0, none⟩) z1).trans (by rw [hx1.2 _ _ (by first | (simp; done) | (simp; omega))]; simp [go_sem])
      have g1 : w2.frozen? ⟨w.heap.size + 1, 1, none⟩ = false := (k2.frozen (p := ⟨w.heap.size + 1, 1, none⟩) z1).trans (by rw [hx1.2 _ _ (by first | (simp; done) | (simp; omega))]; simp [go_sem])
      have g2 : w2.frozen? ⟨w.heap.size + 1, 2, none⟩ = false := (k2.frozen (p := ⟨w.heap.size + 1, 2, none⟩) z1).trans (by rw [hx1.2 _ _ (by first | (simp; done) | (simp; omega))]; simp [go_sem])
      clear k2 hx1
      go_wp2
      refine bodyPost_ret (v := .tuple #[.agg #[.slice none 0 0, .int .i64 0, .int .i64 0], .bool false]) (by simp [results, Try.results61, go_sem, r0, r1, r2]) rfl ⟨_, rfl, own_nil _ _ _, by (repeat (first | (with_reducible exact Below.refl _ _) | (with_reducible refine below_setCell ?_ (by first | (simp; done) | (simp; omega) | omega)) | (with_reducible refine below_alloc _ ?_) | (with_reducible refine below_drewN ?_ _) | (with_reducible assumption) | (with_reducible refine below_after (by assumption) ?_)))⟩
    · have hr := inB_iff.1 hq
      obtain ⟨m, rfl⟩ : ∃ m : Nat, r = (m : Int) := ⟨r.toNat, by omega⟩
      have hml : m < l.length := by have := Hn.out; omega
      have Hst := Lib.hid (startL_nat hml)
      have hmn : (m : Int) < (n : Int) := by omega
      have hm0 : (0 : Int) ≤ (m : Int) := by omega
      have Hup : Hid (upIs l (m : Int) false = (l[m].Up == false)) := Lib.hid (upIs_nat hml false)
      obtain ⟨g, o, rfl, hg, hc⟩ := R.out (by omega)
      obtain ⟨d0, _⟩ := at_replica (hc m hml)
      rw [show o + m * Cod.replica.size = o + m * 3 from rfl] at d0
      rw [Hup.out, Bool.true_and]
      generalize hup : l[m].Up = up at d0 ⊢
      clear Hup hup hc hq hr R Hu
      cases up
      all_goals
        dsimp only [pickG]
        go_enter Try.func61, Try.ntmps61
        go_wp2_with fail
        refine (Hg.out _ (by (repeat (first | (with_reducible exact Below.refl _ _) | (with_reducible refine below_setCell ?_ (by first | (simp; done) | (simp; omega) | omega)) | (with_reducible refine below_alloc _ ?_) | (with_reducible refine below_drewN ?_ _) | (with_reducible assumption) | (with_reducible refine below_after (by assumption) ?_))))).mono ?_
        rintro e w1 ⟨rfl, k1⟩
        have b1 : Below w.heap.size w w1 := below_after k1 (by (repeat (first | (with_reducible exact Below.refl _ _) | (with_reducible refine below_setCell ?_ (by first | (simp; done) | (simp; omega) | omega)) | (with_reducible refine below_alloc _ ?_) | (with_reducible refine below_drewN ?_ _) | (with_reducible assumption) | (with_reducible refine below_after (by assumption) ?_))))
        have hx1 := bcell k1
        have c0 : w1.cell? ⟨w.heap.size, 0, none⟩ = some (.slice (some ⟨g, o, none⟩) n c) := by rw [hx1.1 _ _ (by first | (simp; done) | (simp; omega))]; simp [go_sem]
        have c1 : w1.cell? ⟨w.heap.size, 1, none⟩ = some (.int .i64 term) := by rw [hx1.1 _ _ (by first | (simp; done) | (simp; omega))]; simp [go_sem]
        have c2 : w1.cell? ⟨w.heap.size, 2, none⟩ = some (.int .i64 lead) := by rw [hx1.1 _ _ (by first | (simp; done) | (simp; omega))]; simp [go_sem]
        have r0 : w1.cell? ⟨w.heap.size + 1, 0, none⟩ = some (.slice none 0 0) := by rw [hx1.1 _ _ (by first | (simp; done) | (simp; omega))]; simp [go_sem]
        have r1 : w1.cell? ⟨w.heap.size + 1, 1, none⟩ = some (.int .i64 0) := by rw [hx1.1 _ _ (by first | (simp; done) | (simp; omega))]; simp [go_sem]
        have r2 : w1.cell? ⟨w.heap.size + 1, 2, none⟩ = some (.int .i64 0) := by rw [hx1.1 _ _ (by first | (simp; done) | (simp; omega))]; simp [go_sem]
        have g0 : w1.frozen? ⟨w.heap.size + 1, 0, none⟩ = false := by rw [hx1.2 _ _ (by first | (simp; done) | (simp; omega))]; simp [go_sem]
        have g1 : w1.frozen? ⟨w.heap.size + 1, 1, none⟩ = false := by rw [hx1.2 _ _ (by first | (simp; done) | (simp; omega))]; simp [go_sem]
        have g2 : w1.frozen? ⟨w.heap.size + 1, 2, none⟩ = false := by rw [hx1.2 _ _ (by first | (simp; done) | (simp; omega))]; simp [go_sem]
        have z1 : w.heap.size + 1 < w1.heap.size := by have := k1.size; simp at this; omega
        replace d0 := cell_step b1 d0
        clear k1 hx1
        go_wp2_with fail
        refine (Hi.out _).mono ?_
        rintro e wi ⟨rfl, ki⟩
        have bi : Below w.heap.size w wi := below_after ki b1
        replace d0 := cell_step ki d0
        replace c0 := cell_step ki c0
        replace c1 := cell_step ki c1
        replace c2 := cell_step ki c2
        replace r0 := cell_step ki r0
        replace r1 := cell_step ki r1
        replace r2 := cell_step ki r2
        replace g0 : wi.frozen? ⟨w.heap.size + 1, 0, none⟩ = false := (ki.frozen (p := ⟨w.heap.size + 1, 0, none⟩) z1).trans g0
        replace g1 : wi.frozen? ⟨w.heap.size + 1, 1, none⟩ = false := (ki.frozen (p := ⟨w.heap.size + 1, 1, none⟩) z1).trans g1
        replace g2 : wi.frozen? ⟨w.heap.size + 1, 2, none⟩ = false := (ki.frozen (p := ⟨w.heap.size + 1, 2, none⟩) z1).trans g2
        replace z1 : w.heap.size + 1 < wi.heap.size := Nat.lt_of_lt_of_le z1 ki.size
        clear ki
      rotate_left
      · go_wp2
        refine bodyPost_ret (v := .tuple #[.agg #[.slice none 0 0, .int .i64 0, .int .i64 0], .bool false]) (by simp [results, Try.results61, go_sem, r0, r1, r2]) rfl ⟨_, rfl, own_nil _ _ _, by (repeat (first | (with_reducible exact Below.refl _ _) | (with_reducible refine below_setCell ?_ (by first | (simp; done) | (simp; omega) | omega)) | (with_reducible refine below_alloc _ ?_) | (with_reducible refine below_drewN ?_ _) | (with_reducible assumption) | (with_reducible refine below_after (by assumption) ?_)))⟩
      · go_wp2_with fail
        refine (Ho.out _ bi).mono ?_
        rintro e w2 ⟨v', rfl, o2, k2⟩
        obtain ⟨p', c', rfl⟩ := o2.form
        obtain ⟨g', o', rfl, hg1, hg2, hgf, hgc⟩ := own_atR o2 m hml
        have b2 : Below w.heap.size w w2 := below_after k2 bi
        replace r0 := cell_step k2 r0
        replace r1 := cell_step k2 r1
        replace r2 := cell_step k2 r2
        replace g0 : w2.frozen? ⟨w.heap.size + 1, 0, none⟩ = false := (k2.frozen (p := ⟨w.heap.size + 1, 0, none⟩) z1).trans g0
        replace g1 : w2.frozen? ⟨w.heap.size + 1, 1, none⟩ = false := (k2.frozen (p := ⟨w.heap.size + 1, 1, none⟩) z1).trans g1
        replace g2 : w2.frozen? ⟨w.heap.size + 1, 2, none⟩ = false := (k2.frozen (p := ⟨w.heap.size + 1, 2, none⟩) z1).trans g2
        have z2 : wi.heap.size ≤ w2.heap.size := k2.size
        have hne1 : w.heap.size + 1 ≠ g' := by omega
        have hne2 : w.heap.size + 1 ≠ w2.heap.size := by omega
        have hne3 : w2.heap.size ≠ g' := by omega
        have hn3 : l.length = n := Hn.out
        rw [hn3] at o2 ⊢
        go_upto_region 4 with fail
        obtain ⟨w3, h3⟩ : ∃ w3, w2.alloc (Obj.cells #[.slice (some ⟨g', o', none⟩) n c', .int .i64 term, .int .i64 lead] 27) = w3 := ⟨_, rfl⟩
        rw [h3]
        have o3 : Own Cod.replicaR w3 wi.heap.size (.slice (some ⟨g', o', none⟩) n c') l := h3 ▸ o2.keep (Nat.le_refl _) (keep_alloc _ (Keep.refl _ _))
        have b3 : Below w.heap.size w w3 := by rw [← h3]; (repeat (first | (with_reducible exact Below.refl _ _) | (with_reducible refine below_setCell ?_ (by first | (simp; done) | (simp; omega) | omega)) | (with_reducible refine below_alloc _ ?_) | (with_reducible refine below_drewN ?_ _) | (with_reducible assumption) | (with_reducible refine below_after (by assumption) ?_)))
        have q0 : w3.cell? ⟨w2.heap.size, 0, none⟩ = some (.slice (some ⟨g', o', none⟩) n c') := by rw [← h3]; simp [go_sem]
        have q1 : w3.cell? ⟨w2.heap.size, 1, none⟩ = some (.int .i64 term) := by rw [← h3]; simp [go_sem]
        have q2 : w3.cell? ⟨w2.heap.size, 2, none⟩ = some (.int .i64 lead) := by rw [← h3]; simp [go_sem]
        rw [← cell_alloc_old (by omega), h3] at r0 r1 r2 hgc
        rw [← frozen_alloc_old (by omega), h3] at g0 g1 g2 hgf
        clear h3 o2 k2
        go_upto_region 5 with fail
        obtain ⟨w4, h4⟩ : ∃ w4, w3.setCell ⟨g', o' + m * 3, none⟩ (.bool true) = w4 := ⟨_, rfl⟩
        rw [h4]
        have o4 : Own Cod.replicaR w4 wi.heap.size (.slice (some ⟨g', o', none⟩) n c') (startL l (m : Int)) := by
          rw [Hst.out, ← h4]
          exact own_setUp o3 m hml true
        have b4 : Below w.heap.size w w4 := by rw [← h4]; exact below_setCell b3 (by simp; omega)
        have ot : ∀ b i, b ≠ g' → w4.cell? ⟨b, i, none⟩ = w3.cell? ⟨b, i, none⟩ := fun b i hb => by rw [← h4]; exact World.cell?_setCell_other _ _ _ _ (fun e => hb (congrArg Addr.block e).symm)
        rw [← ot _ _ hne1] at r0 r1 r2
        rw [← ot _ _ hne3] at q0 q1 q2
        have of : ∀ p, w4.frozen? p = w3.frozen? p := fun p => by rw [← h4, World.frozen?_setCell]
        rw [← of] at g0 g1 g2
        clear h4 o3 b3 ot of
        go_wp2
        refine bodyPost_ret (v := .tuple #[.agg #[.slice (some ⟨g', o', none⟩) n c', .int .i64 term, .int .i64 lead], .bool true]) (by simp [results, Try.results61, go_sem, r0, r1, r2, g0, g1, g2]) rfl ⟨_, rfl, ?_, by (repeat (first | (with_reducible exact Below.refl _ _) | (with_reducible refine below_setCell ?_ (by first | (simp; done) | (simp; omega) | omega)) | (with_reducible refine below_alloc _ ?_) | (with_reducible refine below_drewN ?_ _) | (with_reducible assumption) | (with_reducible refine below_after (by assumption) ?_)))⟩
        exact (own_weakR (o4.keep (Nat.le_refl _) (by (repeat (first | (with_reducible exact Keep.refl _ _) | (with_reducible refine keep_set ?_ (by first | (simp; done) | (simp; omega) | omega)) | (with_reducible refine keep_alloc _ ?_) | (with_reducible refine keep_drewN ?_ _) | (with_reducible assumption) | (with_reducible refine keep_below (by assumption) ?_)))))).mono (by omega)

end Go.Proofs.Ytfaefjdlfjhniaa


/- spec.StartRep. -/
namespace Go.Proofs.Ytfaefjdlfjhniaa
open Go.RowKit

set_option maxRecDepth 100000 in
set_option maxHeartbeats 1600000 in
/-- spec.StartRep -/
theorem startS_any (v : Value) (l : List ReplicaD) (term lead r : Int) (ht : I64 term) (hd : I64 lead) (hl : costReplicaS l ≤ 1048576) (w : World) (h : Rd Cod.replica w v l) :
    Calls Try.prog 64 #[.agg #[v, .int .i64 term, .int .i64 lead], .int .i64 r] w fun e w' => ∃ v', e = .returned (.tuple #[.agg #[v', .int .i64 (pickG (goodGB l term lead && upIs l r false) ⟨startL l r, term, lead⟩).Term, .int .i64 (pickG (goodGB l term lead && upIs l r false) ⟨startL l r, term, lead⟩).Lead], .bool (goodGB l term lead && upIs l r false)]) ∧
      Own Cod.replica w' w.heap.size v' (pickG (goodGB l term lead && upIs l r false) ⟨startL l r, term, lead⟩).Reps ∧ Below w.heap.size w w' := by
  have Hu := Lib.hid (fun (W : World) (k : Below w.heap.size w W) => l9Up_any v l term lead r false ht hd hl W (h.below k))
  have Ho := Lib.hid (fun (W : World) (k : Below w.heap.size w W) => l9Own_any v l term lead hl W (h.below k))
  have Hm : Hid (upIs l r false = true → ∃ m : Nat, r = (m : Int) ∧ m < l.length) := Lib.hid (fun hu => by
    by_cases h0 : inB r 0 ((l.length : Int) - 1) = true
    · have := inB_iff.1 h0
      exact ⟨r.toNat, by omega, by omega⟩
    · rw [upIs_out (by simpa using h0)] at hu
      cases hu)
  obtain ⟨p, c, rfl, _⟩ := h.form
  obtain ⟨n, hn⟩ : ∃ n : Nat, l.length = n := ⟨_, rfl⟩
  have Hn := Lib.hid hn
  have hnb : (n : Int) ≤ 1048576 := by unfold costReplicaS at hl; omega
  rw [hn] at Hu Ho ⊢
  clear hn hl h
  generalize hq : (goodGB l term lead && upIs l r false) = q at *
  cases q
  · clear hq
    dsimp only [pickG]
    go_enter Try.func64, Try.ntmps64
    go_wp2_with fail
    refine (Hu.out _ (by (repeat (first | (with_reducible exact Below.refl _ _) | (with_reducible refine below_setCell ?_ (by first | (simp; done) | (simp; omega) | omega)) | (with_reducible refine below_alloc _ ?_) | (with_reducible refine below_drewN ?_ _) | (with_reducible assumption) | (with_reducible refine below_after (by assumption) ?_))))).mono ?_
    rintro e w1 ⟨rfl, k1⟩
    have b1 : Below w.heap.size w w1 := below_after k1 (by (repeat (first | (with_reducible exact Below.refl _ _) | (with_reducible refine below_setCell ?_ (by first | (simp; done) | (simp; omega) | omega)) | (with_reducible refine below_alloc _ ?_) | (with_reducible refine below_drewN ?_ _) | (with_reducible assumption) | (with_reducible refine below_after (by assumption) ?_))))
    have hx1 := bcell k1
    have r0 : w1.cell? ⟨w.heap.size + 1, 0, none⟩ = some (.slice none 0 0) := by rw [hx1.1 _ _ (by first | (simp; done) | (simp; omega))]; simp [go_sem]
    have r1 : w1.cell? ⟨w.heap.size + 1, 1, none⟩ = some (.int .i64 0) := by rw [hx1.1 _ _ (by first | (simp; done) | (simp; omega))]; simp [go_sem]
    have r2 : w1.cell? ⟨w.heap.size + 1, 2, none⟩ = some (.int .i64 0) := by rw [hx1.1 _ _ (by first | (simp; done) | (simp; omega))]; simp [go_sem]
    have g0 : w1.frozen? ⟨w.heap.size + 1, 0, none⟩ = false := by rw [hx1.2 _ _ (by first | (simp; done) | (simp; omega))]; simp [go_sem]
    have g1 : w1.frozen? ⟨w.heap.size + 1, 1, none⟩ = false := by rw [hx1.2 _ _ (by first | (simp; done) | (simp; omega))]; simp [go_sem]
    have g2 : w1.frozen? ⟨w.heap.size + 1, 2, none⟩ = false := by rw [hx1.2 _ _ (by first | (simp; done) | (simp; omega))]; simp [go_sem]
    clear k1
    go_wp2
    refine bodyPost_ret (v := .tuple #[.agg #[.slice none 0 0, .int .i64 0, .int .i64 0], .bool false]) (by simp [results, Try.results64, go_sem, r0, r1, r2]) rfl ⟨_, rfl, own_nil _ _ _, by (repeat (first | (with_reducible exact Below.refl _ _) | (with_reducible refine below_setCell ?_ (by first | (simp; done) | (simp; omega) | omega)) | (with_reducible refine below_alloc _ ?_) | (with_reducible refine below_drewN ?_ _) | (with_reducible assumption) | (with_reducible refine below_after (by assumption) ?_)))⟩
  · obtain ⟨m, rfl, hml⟩ := Hm.out (by simpa using (Bool.and_eq_true _ _ ▸ hq).2)
    have Hst := Lib.hid (startL_nat hml)
    have hmn : (m : Int) < (n : Int) := by have := Hn.out; omega
    have hm0 : (0 : Int) ≤ (m : Int) := by omega
    dsimp only [pickG]
    clear hq
    go_enter Try.func64, Try.ntmps64
    go_wp2_with fail
    refine (Hu.out _ (by (repeat (first | (with_reducible exact Below.refl _ _) | (with_reducible refine below_setCell ?_ (by first | (simp; done) | (simp; omega) | omega)) | (with_reducible refine below_alloc _ ?_) | (with_reducible refine below_drewN ?_ _) | (with_reducible assumption) | (with_reducible refine below_after (by assumption) ?_))))).mono ?_
    rintro e w1 ⟨rfl, k1⟩
    have b1 : Below w.heap.size w w1 := below_after k1 (by (repeat (first | (with_reducible exact Below.refl _ _) | (with_reducible refine below_setCell ?_ (by first | (simp; done) | (simp; omega) | omega)) | (with_reducible refine below_alloc _ ?_) | (with_reducible refine below_drewN ?_ _) | (with_reducible assumption) | (with_reducible refine below_after (by assumption) ?_))))
    have hx1 := bcell k1
    have c0 : w1.cell? ⟨w.heap.size, 0, none⟩ = some (.slice p n c) := by rw [hx1.1 _ _ (by first | (simp; done) | (simp; omega))]; simp [go_sem]
    have c1 : w1.cell? ⟨w.heap.size, 1, none⟩ = some (.int .i64 term) := by rw [hx1.1 _ _ (by first | (simp; done) | (simp; omega))]; simp [go_sem]
    have c2 : w1.cell? ⟨w.heap.size, 2, none⟩ = some (.int .i64 lead) := by rw [hx1.1 _ _ (by first | (simp; done) | (simp; omega))]; simp [go_sem]
    have r0 : w1.cell? ⟨w.heap.size + 1, 0, none⟩ = some (.slice none 0 0) := by rw [hx1.1 _ _ (by first | (simp; done) | (simp; omega))]; simp [go_sem]
    have r1 : w1.cell? ⟨w.heap.size + 1, 1, none⟩ = some (.int .i64 0) := by rw [hx1.1 _ _ (by first | (simp; done) | (simp; omega))]; simp [go_sem]
    have r2 : w1.cell? ⟨w.heap.size + 1, 2, none⟩ = some (.int .i64 0) := by rw [hx1.1 _ _ (by first | (simp; done) | (simp; omega))]; simp [go_sem]
    have g0 : w1.frozen? ⟨w.heap.size + 1, 0, none⟩ = false := by rw [hx1.2 _ _ (by first | (simp; done) | (simp; omega))]; simp [go_sem]
    have g1 : w1.frozen? ⟨w.heap.size + 1, 1, none⟩ = false := by rw [hx1.2 _ _ (by first | (simp; done) | (simp; omega))]; simp [go_sem]
    have g2 : w1.frozen? ⟨w.heap.size + 1, 2, none⟩ = false := by rw [hx1.2 _ _ (by first | (simp; done) | (simp; omega))]; simp [go_sem]
    have z1 : w.heap.size + 1 < w1.heap.size := by have := k1.size; simp at this; omega
    clear k1 hx1
    go_wp2_with fail
    refine (Ho.out _ b1).mono ?_
    rintro e w2 ⟨v', rfl, o2, k2⟩
    obtain ⟨p', c', rfl⟩ := o2.form
    obtain ⟨g', o', rfl, hg1, hg2, hgf, hgc⟩ := own_atR o2 m hml
    have b2 : Below w.heap.size w w2 := below_after k2 b1
    replace r0 := cell_step k2 r0
    replace r1 := cell_step k2 r1
    replace r2 := cell_step k2 r2
    replace g0 : w2.frozen? ⟨w.heap.size + 1, 0, none⟩ = false := (k2.frozen (p := ⟨w.heap.size + 1, 0, none⟩) z1).trans g0
    replace g1 : w2.frozen? ⟨w.heap.size + 1, 1, none⟩ = false := (k2.frozen (p := ⟨w.heap.size + 1, 1, none⟩) z1).trans g1
    replace g2 : w2.frozen? ⟨w.heap.size + 1, 2, none⟩ = false := (k2.frozen (p := ⟨w.heap.size + 1, 2, none⟩) z1).trans g2
    have z2 : w1.heap.size ≤ w2.heap.size := k2.size
    have hne1 : w.heap.size + 1 ≠ g' := by omega
    have hne2 : w.heap.size + 1 ≠ w2.heap.size := by omega
    have hne3 : w2.heap.size ≠ g' := by omega
    have hn3 : l.length = n := Hn.out
    rw [hn3] at o2 ⊢
    go_upto_region 4 with fail
    obtain ⟨w3, h3⟩ : ∃ w3, w2.alloc (Obj.cells #[.slice (some ⟨g', o', none⟩) n c', .int .i64 term, .int .i64 lead] 27) = w3 := ⟨_, rfl⟩
    rw [h3]
    have o3 : Own Cod.replicaR w3 w1.heap.size (.slice (some ⟨g', o', none⟩) n c') l := h3 ▸ o2.keep (Nat.le_refl _) (keep_alloc _ (Keep.refl _ _))
    have b3 : Below w.heap.size w w3 := by rw [← h3]; (repeat (first | (with_reducible exact Below.refl _ _) | (with_reducible refine below_setCell ?_ (by first | (simp; done) | (simp; omega) | omega)) | (with_reducible refine below_alloc _ ?_) | (with_reducible refine below_drewN ?_ _) | (with_reducible assumption) | (with_reducible refine below_after (by assumption) ?_)))
    have q0 : w3.cell? ⟨w2.heap.size, 0, none⟩ = some (.slice (some ⟨g', o', none⟩) n c') := by rw [← h3]; simp [go_sem]
    have q1 : w3.cell? ⟨w2.heap.size, 1, none⟩ = some (.int .i64 term) := by rw [← h3]; simp [go_sem]
    have q2 : w3.cell? ⟨w2.heap.size, 2, none⟩ = some (.int .i64 lead) := by rw [← h3]; simp [go_sem]
    rw [← cell_alloc_old (by omega), h3] at r0 r1 r2 hgc
    rw [← frozen_alloc_old (by omega), h3] at g0 g1 g2 hgf
    clear h3 o2 k2
    go_upto_region 5 with fail
    obtain ⟨w4, h4⟩ : ∃ w4, w3.setCell ⟨g', o' + m * 3, none⟩ (.bool true) = w4 := ⟨_, rfl⟩
    rw [h4]
    have o4 : Own Cod.replicaR w4 w1.heap.size (.slice (some ⟨g', o', none⟩) n c') (startL l (m : Int)) := by
      rw [Hst.out, ← h4]
      exact own_setUp o3 m hml true
    have b4 : Below w.heap.size w w4 := by rw [← h4]; exact below_setCell b3 (by simp; omega)
    have ot : ∀ b i, b ≠ g' → w4.cell? ⟨b, i, none⟩ = w3.cell? ⟨b, i, none⟩ := fun b i hb => by rw [← h4]; exact World.cell?_setCell_other _ _ _ _ (fun e => hb (congrArg Addr.block e).symm)
    rw [← ot _ _ hne1] at r0 r1 r2
    rw [← ot _ _ hne3] at q0 q1 q2
    have of : ∀ p, w4.frozen? p = w3.frozen? p := fun p => by rw [← h4, World.frozen?_setCell]
    rw [← of] at g0 g1 g2
    clear h4 o3 b3 ot of
    go_wp2
    refine bodyPost_ret (v := .tuple #[.agg #[.slice (some ⟨g', o', none⟩) n c', .int .i64 term, .int .i64 lead], .bool true]) (by simp [results, Try.results64, go_sem, r0, r1, r2, g0, g1, g2]) rfl ⟨_, rfl, ?_, by (repeat (first | (with_reducible exact Below.refl _ _) | (with_reducible refine below_setCell ?_ (by first | (simp; done) | (simp; omega) | omega)) | (with_reducible refine below_alloc _ ?_) | (with_reducible refine below_drewN ?_ _) | (with_reducible assumption) | (with_reducible refine below_after (by assumption) ?_)))⟩
    exact (own_weakR (o4.keep (Nat.le_refl _) (by (repeat (first | (with_reducible exact Keep.refl _ _) | (with_reducible refine keep_set ?_ (by first | (simp; done) | (simp; omega) | omega)) | (with_reducible refine keep_alloc _ ?_) | (with_reducible refine keep_drewN ?_ _) | (with_reducible assumption) | (with_reducible refine keep_below (by assumption) ?_)))))).mono (by omega)

end Go.Proofs.Ytfaefjdlfjhniaa

