/- Plain lemmas and contracts that all proofs of this seat lean on: bundle Putentb. -/
import Derived.Test.YtfaefjdlfjhniaaPutb
import Derived.Test.YtfaefjdlfjhniaaHeld
import Derived.Test.YtfaefjdlfjhniaaRowd
import Derived.Test.YtfaefjdlfjhniaaGoodr
import Derived.Test.YtfaefjdlfjhniaaCopyl
/- impl.PutEntry. Printed by mkput.py. -/
namespace Go.Proofs.Ytfaefjdlfjhniaa
open Go.RowKit

set_option maxRecDepth 100000 in
set_option maxHeartbeats 6400000 in
/-- impl.PutEntry -/
theorem put_any (v : Value) (l : List ReplicaD) (term lead : Int) (r : RecD) (ht : I64 term) (hd : I64 lead) (hl : costReplicaS l ≤ 1048576) (hc : costRec r ≤ 1048576) (i0 : I64 r.Kind) (i1 : I64 r.Txn) (i2 : I64 r.Time) (i3 : I64 r.Lead) (w : World) (h : Rd Cod.replica w v l) (a b : Value) (ra : Rd Cod.str w a r.Reads) (rb : Rd Cod.write w b r.Writes) :
    Calls Try.prog 13 #[.agg #[v, .int .i64 term, .int .i64 lead], .agg #[.int .i64 r.Kind, .int .i64 r.Txn, .int .i64 r.Time, .int .i64 r.Lead, a, b, .bool r.Yes]] w fun e w' => ∃ v', e = .returned (.tuple #[.agg #[v', .int .i64 (pickG (goodGB l term lead && putOk l lead && goodRB r) ⟨putL l term lead r, term, lead⟩).Term, .int .i64 (pickG (goodGB l term lead && putOk l lead && goodRB r) ⟨putL l term lead r, term, lead⟩).Lead], .bool (goodGB l term lead && putOk l lead && goodRB r)]) ∧
      Own Cod.replica w' w.heap.size v' (pickG (goodGB l term lead && putOk l lead && goodRB r) ⟨putL l term lead r, term, lead⟩).Reps ∧ Below w.heap.size w w' := by
  obtain ⟨j0, hi, hz0, hz1, hz2⟩ := info_parts Try_info_entry
  have hrl : r.Reads.length ≤ 1048576 ∧ r.Writes.length ≤ 1048576 := by unfold costRec costStringS costWriteS at hc; omega
  have Hg := Lib.hid (fun (W : World) (k : Below w.heap.size w W) => goodGroup_any v l term lead ht hd hl W (h.below k))
  have Ho := Lib.hid (fun (W : World) (k : Below w.heap.size w W) => copyGroup_any v l term lead hl W (h.below k))
  have Hr := Lib.hid (fun (W : World) (k : Below w.heap.size w W) => goodRec_any r hrl.1 hrl.2 W a b (ra.below k) (rb.below k))
  have Hld := Lib.hid (fun (hg : goodGB l term lead = true) => good_lead hg)
  have Hcp : Hid (∀ W, Below w.heap.size w W → Calls Try.prog 36 #[.agg #[.int .i64 r.Kind, .int .i64 r.Txn, .int .i64 r.Time, .int .i64 r.Lead, a, b, .bool r.Yes]] W fun e w' => EntRet ⟨term, r⟩ W.heap.size e w' ∧ Below W.heap.size W w') := Lib.hid fun W k => (copyRec_d r i0 i1 i2 i3 hrl.1 hrl.2 W _ (ra.below k) _ (rb.below k)).mono fun _ _ h => ⟨entRet_of ht h.1, h.2⟩
  unfold EntRet at Hcp
  obtain ⟨p, c, rfl, _, _, rr⟩ := h.form
  have Rr := Lib.hid rr
  obtain ⟨pr, cr, rfl, -⟩ := ra.form
  obtain ⟨pw, cw, rfl, -⟩ := rb.form
  obtain ⟨n, hn⟩ : ∃ n : Nat, l.length = n := ⟨_, rfl⟩
  have Hn := Lib.hid hn
  have hnb : (n : Int) ≤ 1048576 := by unfold costReplicaS at hl; omega
  rw [hn] at Hg Ho ⊢
  generalize hnr : r.Reads.length = nr at *
  generalize hnw : r.Writes.length = nw at *
  clear hn hl h rr ra rb hrl hc i0 i1 i2 i3
  generalize hq : goodGB l term lead = q at *
  cases q
  · clear hq
    dsimp only [pickG, Bool.false_and]
    go_enter Try.func13, Try.ntmps13
    go_wp2_with fail
    refine (Hg.out _ (by (repeat (first | (with_reducible exact Below.refl _ _) | (with_reducible refine below_setCell ?_ (by first | (simp; done) | (simp; omega) | omega)) | (with_reducible refine below_alloc _ ?_) | (with_reducible refine below_drewN ?_ _) | (with_reducible assumption) | (with_reducible refine below_after (by assumption) ?_))))).mono ?_
    rintro e w1 ⟨rfl, k1⟩
    have b1 : Below w.heap.size w w1 := below_after k1 (by (repeat (first | (with_reducible exact Below.refl _ _) | (with_reducible refine below_setCell ?_ (by first | (simp; done) | (simp; omega) | omega)) | (with_reducible refine below_alloc _ ?_) | (with_reducible refine below_drewN ?_ _) | (with_reducible assumption) | (with_reducible refine below_after (by assumption) ?_))))
    have hx1 := bcell k1
    have r0 : w1.cell? ⟨w.heap.size + 1 + 1, 0, none⟩ = some (.slice none 0 0) := by rw [hx1.1 _ _ (by first | (simp; done) | (simp; omega))]; simp [go_sem]
    have r1 : w1.cell? ⟨w.heap.size + 1 + 1, 1, none⟩ = some (.int .i64 0) := by rw [hx1.1 _ _ (by first | (simp; done) | (simp; omega))]; simp [go_sem]
    have r2 : w1.cell? ⟨w.heap.size + 1 + 1, 2, none⟩ = some (.int .i64 0) := by rw [hx1.1 _ _ (by first | (simp; done) | (simp; omega))]; simp [go_sem]
    have g0 : w1.frozen? ⟨w.heap.size + 1 + 1, 0, none⟩ = false := by rw [hx1.2 _ _ (by first | (simp; done) | (simp; omega))]; simp [go_sem]
    have g1 : w1.frozen? ⟨w.heap.size + 1 + 1, 1, none⟩ = false := by rw [hx1.2 _ _ (by first | (simp; done) | (simp; omega))]; simp [go_sem]
    have g2 : w1.frozen? ⟨w.heap.size + 1 + 1, 2, none⟩ = false := by rw [hx1.2 _ _ (by first | (simp; done) | (simp; omega))]; simp [go_sem]
    clear k1 hx1
    go_wp2
    refine bodyPost_ret (v := .tuple #[.agg #[.slice none 0 0, .int .i64 0, .int .i64 0], .bool false]) (by simp [results, Try.results13, go_sem, r0, r1, r2]) rfl ⟨_, rfl, own_nil _ _ _, by (repeat (first | (with_reducible exact Below.refl _ _) | (with_reducible refine below_setCell ?_ (by first | (simp; done) | (simp; omega) | omega)) | (with_reducible refine below_alloc _ ?_) | (with_reducible refine below_drewN ?_ _) | (with_reducible assumption) | (with_reducible refine below_after (by assumption) ?_)))⟩
  · by_cases hneg : lead < 0
    · rw [putOk_neg hneg]
      clear hq
      dsimp only [pickG, Bool.and_false, Bool.false_and]
      go_enter Try.func13, Try.ntmps13
      go_wp2_with fail
      refine (Hg.out _ (by (repeat (first | (with_reducible exact Below.refl _ _) | (with_reducible refine below_setCell ?_ (by first | (simp; done) | (simp; omega) | omega)) | (with_reducible refine below_alloc _ ?_) | (with_reducible refine below_drewN ?_ _) | (with_reducible assumption) | (with_reducible refine below_after (by assumption) ?_))))).mono ?_
      rintro e w1 ⟨rfl, k1⟩
      have b1 : Below w.heap.size w w1 := below_after k1 (by (repeat (first | (with_reducible exact Below.refl _ _) | (with_reducible refine below_setCell ?_ (by first | (simp; done) | (simp; omega) | omega)) | (with_reducible refine below_alloc _ ?_) | (with_reducible refine below_drewN ?_ _) | (with_reducible assumption) | (with_reducible refine below_after (by assumption) ?_))))
      have hx1 := bcell k1
      have c0 : w1.cell? ⟨w.heap.size, 0, none⟩ = some (.slice p n c) := by rw [hx1.1 _ _ (by first | (simp; done) | (simp; omega))]; simp [go_sem]
      have c1 : w1.cell? ⟨w.heap.size, 1, none⟩ = some (.int .i64 term) := by rw [hx1.1 _ _ (by first | (simp; done) | (simp; omega))]; simp [go_sem]
      have c2 : w1.cell? ⟨w.heap.size, 2, none⟩ = some (.int .i64 lead) := by rw [hx1.1 _ _ (by first | (simp; done) | (simp; omega))]; simp [go_sem]
      have r0 : w1.cell? ⟨w.heap.size + 1 + 1, 0, none⟩ = some (.slice none 0 0) := by rw [hx1.1 _ _ (by first | (simp; done) | (simp; omega))]; simp [go_sem]
      have r1 : w1.cell? ⟨w.heap.size + 1 + 1, 1, none⟩ = some (.int .i64 0) := by rw [hx1.1 _ _ (by first | (simp; done) | (simp; omega))]; simp [go_sem]
      have r2 : w1.cell? ⟨w.heap.size + 1 + 1, 2, none⟩ = some (.int .i64 0) := by rw [hx1.1 _ _ (by first | (simp; done) | (simp; omega))]; simp [go_sem]
      have g0 : w1.frozen? ⟨w.heap.size + 1 + 1, 0, none⟩ = false := by rw [hx1.2 _ _ (by first | (simp; done) | (simp; omega))]; simp [go_sem]
      have g1 : w1.frozen? ⟨w.heap.size + 1 + 1, 1, none⟩ = false := by rw [hx1.2 _ _ (by first | (simp; done) | (simp; omega))]; simp [go_sem]
      have g2 : w1.frozen? ⟨w.heap.size + 1 + 1, 2, none⟩ = false := by rw [hx1.2 _ _ (by first | (simp; done) | (simp; omega))]; simp [go_sem]
      clear k1 hx1
      go_wp2
      refine bodyPost_ret (v := .tuple #[.agg #[.slice none 0 0, .int .i64 0, .int .i64 0], .bool false]) (by simp [results, Try.results13, go_sem, r0, r1, r2]) rfl ⟨_, rfl, own_nil _ _ _, by (repeat (first | (with_reducible exact Below.refl _ _) | (with_reducible refine below_setCell ?_ (by first | (simp; done) | (simp; omega) | omega)) | (with_reducible refine below_alloc _ ?_) | (with_reducible refine below_drewN ?_ _) | (with_reducible assumption) | (with_reducible refine below_after (by assumption) ?_)))⟩
    · obtain ⟨m, rfl, hml, h60⟩ := Hld.out rfl hneg
      have Hst := Lib.hid (putL_nat hml term r)
      have hok := putOk_nat hml
      have hmn : (m : Int) < (n : Int) := by have := Hn.out; omega
      have hm0 : (0 : Int) ≤ (m : Int) := by omega
      obtain ⟨gg, og, rfl, hgg, hcg⟩ := Rr.out (by have := Hn.out; omega)
      obtain ⟨_, ⟨vl, e1, rl⟩, _⟩ := at_replica (hcg m hml)
      rw [show og + m * Cod.replica.size = og + m * 3 from rfl] at e1
      obtain ⟨pl, cl, rfl, -⟩ := rl.form
      have Hlen : Hid (l[m].Log.length = l[m].Log.length) := Lib.hid rfl
      rw [hok]
      clear hok hcg rl Rr Hld hq
      generalize hL : l[m].Log.length = nL at *
      have hnL : (nL : Int) ≤ 60 := by omega
      generalize hqr : goodRB r = qr at *
      clear hqr
      by_cases hfull : nL < 60
      rotate_left
      · have hn60 : (nL : Int) = 60 := by omega
        have hb60 : ((nL : Int) == 60) = true := by simp; omega
        rw [decide_eq_false hfull]
        dsimp only [pickG, Bool.and_false, Bool.false_and, Bool.true_and]
        go_enter Try.func13, Try.ntmps13
        go_wp2_with fail
        refine (Hg.out _ (by (repeat (first | (with_reducible exact Below.refl _ _) | (with_reducible refine below_setCell ?_ (by first | (simp; done) | (simp; omega) | omega)) | (with_reducible refine below_alloc _ ?_) | (with_reducible refine below_drewN ?_ _) | (with_reducible assumption) | (with_reducible refine below_after (by assumption) ?_))))).mono ?_
        rintro e w1 ⟨rfl, k1⟩
        have b1 : Below w.heap.size w w1 := below_after k1 (by (repeat (first | (with_reducible exact Below.refl _ _) | (with_reducible refine below_setCell ?_ (by first | (simp; done) | (simp; omega) | omega)) | (with_reducible refine below_alloc _ ?_) | (with_reducible refine below_drewN ?_ _) | (with_reducible assumption) | (with_reducible refine below_after (by assumption) ?_))))
        have hx1 := bcell k1
        have c0 : w1.cell? ⟨w.heap.size, 0, none⟩ = some (.slice (some ⟨gg, og, none⟩) n c) := by rw [hx1.1 _ _ (by first | (simp; done) | (simp; omega))]; simp [go_sem]
        have c1 : w1.cell? ⟨w.heap.size, 1, none⟩ = some (.int .i64 term) := by rw [hx1.1 _ _ (by first | (simp; done) | (simp; omega))]; simp [go_sem]
        have c2 : w1.cell? ⟨w.heap.size, 2, none⟩ = some (.int .i64 (m : Int)) := by rw [hx1.1 _ _ (by first | (simp; done) | (simp; omega))]; simp [go_sem]
        have d0 : w1.cell? ⟨w.heap.size + 1, 0, none⟩ = some (.int .i64 r.Kind) := by rw [hx1.1 _ _ (by first | (simp; done) | (simp; omega))]; simp [go_sem]
        have d1 : w1.cell? ⟨w.heap.size + 1, 1, none⟩ = some (.int .i64 r.Txn) := by rw [hx1.1 _ _ (by first | (simp; done) | (simp; omega))]; simp [go_sem]
        have d2 : w1.cell? ⟨w.heap.size + 1, 2, none⟩ = some (.int .i64 r.Time) := by rw [hx1.1 _ _ (by first | (simp; done) | (simp; omega))]; simp [go_sem]
        have d3 : w1.cell? ⟨w.heap.size + 1, 3, none⟩ = some (.int .i64 r.Lead) := by rw [hx1.1 _ _ (by first | (simp; done) | (simp; omega))]; simp [go_sem]
        have d4 : w1.cell? ⟨w.heap.size + 1, 4, none⟩ = some (.slice pr nr cr) := by rw [hx1.1 _ _ (by first | (simp; done) | (simp; omega))]; simp [go_sem]
        have d5 : w1.cell? ⟨w.heap.size + 1, 5, none⟩ = some (.slice pw nw cw) := by rw [hx1.1 _ _ (by first | (simp; done) | (simp; omega))]; simp [go_sem]
        have d6 : w1.cell? ⟨w.heap.size + 1, 6, none⟩ = some (.bool r.Yes) := by rw [hx1.1 _ _ (by first | (simp; done) | (simp; omega))]; simp [go_sem]
        have r0 : w1.cell? ⟨w.heap.size + 1 + 1, 0, none⟩ = some (.slice none 0 0) := by rw [hx1.1 _ _ (by first | (simp; done) | (simp; omega))]; simp [go_sem]
        have r1 : w1.cell? ⟨w.heap.size + 1 + 1, 1, none⟩ = some (.int .i64 0) := by rw [hx1.1 _ _ (by first | (simp; done) | (simp; omega))]; simp [go_sem]
        have r2 : w1.cell? ⟨w.heap.size + 1 + 1, 2, none⟩ = some (.int .i64 0) := by rw [hx1.1 _ _ (by first | (simp; done) | (simp; omega))]; simp [go_sem]
        have g0 : w1.frozen? ⟨w.heap.size + 1 + 1, 0, none⟩ = false := by rw [hx1.2 _ _ (by first | (simp; done) | (simp; omega))]; simp [go_sem]
        have g1 : w1.frozen? ⟨w.heap.size + 1 + 1, 1, none⟩ = false := by rw [hx1.2 _ _ (by first | (simp; done) | (simp; omega))]; simp [go_sem]
        have g2 : w1.frozen? ⟨w.heap.size + 1 + 1, 2, none⟩ = false := by rw [hx1.2 _ _ (by first | (simp; done) | (simp; omega))]; simp [go_sem]
        have z1 : w.heap.size + 1 + 1 < w1.heap.size := by have := k1.size; simp at this; omega
        replace e1 := cell_step b1 e1
        clear k1 hx1
        go_wp2
        refine bodyPost_ret (v := .tuple #[.agg #[.slice none 0 0, .int .i64 0, .int .i64 0], .bool false]) (by simp [results, Try.results13, go_sem, r0, r1, r2]) rfl ⟨_, rfl, own_nil _ _ _, by (repeat (first | (with_reducible exact Below.refl _ _) | (with_reducible refine below_setCell ?_ (by first | (simp; done) | (simp; omega) | omega)) | (with_reducible refine below_alloc _ ?_) | (with_reducible refine below_drewN ?_ _) | (with_reducible assumption) | (with_reducible refine below_after (by assumption) ?_)))⟩
      · have hn60 : (nL : Int) < 60 := by omega
        have hb60 : ((nL : Int) == 60) = false := by simp; omega
        rw [decide_eq_true hfull]
        clear hfull
        cases qr
        all_goals
          dsimp only [pickG, Bool.and_false, Bool.false_and, Bool.true_and]
          go_enter Try.func13, Try.ntmps13
          go_wp2_with fail
          refine (Hg.out _ (by (repeat (first | (with_reducible exact Below.refl _ _) | (with_reducible refine below_setCell ?_ (by first | (simp; done) | (simp; omega) | omega)) | (with_reducible refine below_alloc _ ?_) | (with_reducible refine below_drewN ?_ _) | (with_reducible assumption) | (with_reducible refine below_after (by assumption) ?_))))).mono ?_
          rintro e w1 ⟨rfl, k1⟩
          have b1 : Below w.heap.size w w1 := below_after k1 (by (repeat (first | (with_reducible exact Below.refl _ _) | (with_reducible refine below_setCell ?_ (by first | (simp; done) | (simp; omega) | omega)) | (with_reducible refine below_alloc _ ?_) | (with_reducible refine below_drewN ?_ _) | (with_reducible assumption) | (with_reducible refine below_after (by assumption) ?_))))
          have hx1 := bcell k1
          have c0 : w1.cell? ⟨w.heap.size, 0, none⟩ = some (.slice (some ⟨gg, og, none⟩) n c) := by rw [hx1.1 _ _ (by first | (simp; done) | (simp; omega))]; simp [go_sem]
          have c1 : w1.cell? ⟨w.heap.size, 1, none⟩ = some (.int .i64 term) := by rw [hx1.1 _ _ (by first | (simp; done) | (simp; omega))]; simp [go_sem]
          have c2 : w1.cell? ⟨w.heap.size, 2, none⟩ = some (.int .i64 (m : Int)) := by rw [hx1.1 _ _ (by first | (simp; done) | (simp; omega))]; simp [go_sem]
          have d0 : w1.cell? ⟨w.heap.size + 1, 0, none⟩ = some (.int .i64 r.Kind) := by rw [hx1.1 _ _ (by first | (simp; done) | (simp; omega))]; simp [go_sem]
          have d1 : w1.cell? ⟨w.heap.size + 1, 1, none⟩ = some (.int .i64 r.Txn) := by rw [hx1.1 _ _ (by first | (simp; done) | (simp; omega))]; simp [go_sem]
          have d2 : w1.cell? ⟨w.heap.size + 1, 2, none⟩ = some (.int .i64 r.Time) := by rw [hx1.1 _ _ (by first | (simp; done) | (simp; omega))]; simp [go_sem]
          have d3 : w1.cell? ⟨w.heap.size + 1, 3, none⟩ = some (.int .i64 r.Lead) := by rw [hx1.1 _ _ (by first | (simp; done) | (simp; omega))]; simp [go_sem]
          have d4 : w1.cell? ⟨w.heap.size + 1, 4, none⟩ = some (.slice pr nr cr) := by rw [hx1.1 _ _ (by first | (simp; done) | (simp; omega))]; simp [go_sem]
          have d5 : w1.cell? ⟨w.heap.size + 1, 5, none⟩ = some (.slice pw nw cw) := by rw [hx1.1 _ _ (by first | (simp; done) | (simp; omega))]; simp [go_sem]
          have d6 : w1.cell? ⟨w.heap.size + 1, 6, none⟩ = some (.bool r.Yes) := by rw [hx1.1 _ _ (by first | (simp; done) | (simp; omega))]; simp [go_sem]
          have r0 : w1.cell? ⟨w.heap.size + 1 + 1, 0, none⟩ = some (.slice none 0 0) := by rw [hx1.1 _ _ (by first | (simp; done) | (simp; omega))]; simp [go_sem]
          have r1 : w1.cell? ⟨w.heap.size + 1 + 1, 1, none⟩ = some (.int .i64 0) := by rw [hx1.1 _ _ (by first | (simp; done) | (simp; omega))]; simp [go_sem]
          have r2 : w1.cell? ⟨w.heap.size + 1 + 1, 2, none⟩ = some (.int .i64 0) := by rw [hx1.1 _ _ (by first | (simp; done) | (simp; omega))]; simp [go_sem]
          have g0 : w1.frozen? ⟨w.heap.size + 1 + 1, 0, none⟩ = false := by rw [hx1.2 _ _ (by first | (simp; done) | (simp; omega))]; simp [go_sem]
          have g1 : w1.frozen? ⟨w.heap.size + 1 + 1, 1, none⟩ = false := by rw [hx1.2 _ _ (by first | (simp; done) | (simp; omega))]; simp [go_sem]
          have g2 : w1.frozen? ⟨w.heap.size + 1 + 1, 2, none⟩ = false := by rw [hx1.2 _ _ (by first | (simp; done) | (simp; omega))]; simp [go_sem]
          have z1 : w.heap.size + 1 + 1 < w1.heap.size := by have := k1.size; simp at this; omega
          replace e1 := cell_step b1 e1
          clear k1 hx1
          go_wp2_with fail
          refine (Hr.out _ b1).mono ?_
          rintro e w2 ⟨rfl, k2⟩
          have b2 : Below w.heap.size w w2 := below_after k2 b1
          replace c0 := cell_step k2 c0
          replace c1 := cell_step k2 c1
          replace c2 := cell_step k2 c2
          replace d0 := cell_step k2 d0
          replace d1 := cell_step k2 d1
          replace d2 := cell_step k2 d2
          replace d3 := cell_step k2 d3
          replace d4 := cell_step k2 d4
          replace d5 := cell_step k2 d5
          replace d6 := cell_step k2 d6
          replace r0 := cell_step k2 r0
          replace r1 := cell_step k2 r1
          replace r2 := cell_step k2 r2
          replace e1 := cell_step k2 e1
          replace g0 : w2.frozen? ⟨w.heap.size + 1 + 1, 0, none⟩ = false := (k2.frozen (p := ⟨w.heap.size + 1 + 1, 0, none⟩) z1).trans g0
          replace g1 : w2.frozen? ⟨w.heap.size + 1 + 1, 1, none⟩ = false := (k2.frozen (p := ⟨w.heap.size + 1 + 1, 1, none⟩) z1).trans g1
          replace g2 : w2.frozen? ⟨w.heap.size + 1 + 1, 2, none⟩ = false := (k2.frozen (p := ⟨w.heap.size + 1 + 1, 2, none⟩) z1).trans g2
          replace z1 : w.heap.size + 1 + 1 < w2.heap.size := Nat.lt_of_lt_of_le z1 k2.size
          clear k2
        · go_wp2
          refine bodyPost_ret (v := .tuple #[.agg #[.slice none 0 0, .int .i64 0, .int .i64 0], .bool false]) (by simp [results, Try.results13, go_sem, r0, r1, r2]) rfl ⟨_, rfl, own_nil _ _ _, by (repeat (first | (with_reducible exact Below.refl _ _) | (with_reducible refine below_setCell ?_ (by first | (simp; done) | (simp; omega) | omega)) | (with_reducible refine below_alloc _ ?_) | (with_reducible refine below_drewN ?_ _) | (with_reducible assumption) | (with_reducible refine below_after (by assumption) ?_)))⟩
        · go_wp2_with fail
          refine (Ho.out _ b2).mono ?_
          rintro e w3 ⟨v', rfl, o3, k3⟩
          obtain ⟨p', c', rfl⟩ := o3.form
          obtain ⟨g', o', rfl, hg1, hg2, _, _⟩ := own_atR o3 m hml
          have b3 : Below w.heap.size w w3 := below_after k3 b2
          replace c0 := cell_step k3 c0
          replace c1 := cell_step k3 c1
          replace c2 := cell_step k3 c2
          replace d0 := cell_step k3 d0
          replace d1 := cell_step k3 d1
          replace d2 := cell_step k3 d2
          replace d3 := cell_step k3 d3
          replace d4 := cell_step k3 d4
          replace d5 := cell_step k3 d5
          replace d6 := cell_step k3 d6
          replace r0 := cell_step k3 r0
          replace r1 := cell_step k3 r1
          replace r2 := cell_step k3 r2
          replace g0 : w3.frozen? ⟨w.heap.size + 1 + 1, 0, none⟩ = false := (k3.frozen (p := ⟨w.heap.size + 1 + 1, 0, none⟩) z1).trans g0
          replace g1 : w3.frozen? ⟨w.heap.size + 1 + 1, 1, none⟩ = false := (k3.frozen (p := ⟨w.heap.size + 1 + 1, 1, none⟩) z1).trans g1
          replace g2 : w3.frozen? ⟨w.heap.size + 1 + 1, 2, none⟩ = false := (k3.frozen (p := ⟨w.heap.size + 1 + 1, 2, none⟩) z1).trans g2
          have z3 : w2.heap.size ≤ w3.heap.size := k3.size
          have hn3 : l.length = n := Hn.out
          rw [hn3] at o3 ⊢
          obtain ⟨fp, vL, hR, hM, hgfp, hfl, hcL, hfL, hSet⟩ := own_logAt o3 m hml
          have Hset := Lib.hid hSet
          clear hSet
          go_upto_region 5 with fail
          obtain ⟨w4, h4⟩ : ∃ w4, w3.alloc (Obj.cells #[.slice (some ⟨g', o', none⟩) n c', .int .i64 term, .int .i64 (m : Int)] 27) = w4 := ⟨_, rfl⟩
          rw [h4]
          have hold4 : ∀ d, d < w3.heap.size → w4.heap[d]? = w3.heap[d]? := fun d hd => by rw [← h4]; exact Below.heap_alloc _ _ _ hd
          have b4 : Below w.heap.size w w4 := by rw [← h4]; (repeat (first | (with_reducible exact Below.refl _ _) | (with_reducible refine below_setCell ?_ (by first | (simp; done) | (simp; omega) | omega)) | (with_reducible refine below_alloc _ ?_) | (with_reducible refine below_drewN ?_ _) | (with_reducible assumption) | (with_reducible refine below_after (by assumption) ?_)))
          have z4 : w4.heap.size = w3.heap.size + 1 := by rw [← h4]; simp
          have q0 : w4.cell? ⟨w3.heap.size, 0, none⟩ = some ((.slice (some ⟨g', o', none⟩) n c')) := by rw [← h4]; simp [go_sem]
          have q1 : w4.cell? ⟨w3.heap.size, 1, none⟩ = some (.int .i64 term) := by rw [← h4]; simp [go_sem]
          have q2 : w4.cell? ⟨w3.heap.size, 2, none⟩ = some (.int .i64 (m : Int)) := by rw [← h4]; simp [go_sem]
          rw [← cell_alloc_old (by omega), h4] at c0 c1 c2 d0 d1 d2 d3 d4 d5 d6 r0 r1 r2 hcL
          rw [← frozen_alloc_old (by omega), h4] at g0 g1 g2 hfL
          have hR4 := Cod.rdR_frame Cod.entry (fun d hd => hold4 d (hfl d hd)) hR
          have hM4 := hM.frame (fun d hd => hold4 d (hfl d hd))
          clear h4 o3 k3
          have hg4 : g' < w4.heap.size := by omega
          refine wp_region_d 11 (fun w' => w'.cell? ⟨g', o' + m * 3 + 1, none⟩ = some vL ∧ w'.cell? ⟨w3.heap.size, 1, none⟩ = some (.int .i64 term) ∧ w'.cell? ⟨w.heap.size + 1, 0, none⟩ = some (.int .i64 r.Kind) ∧ w'.cell? ⟨w.heap.size + 1, 1, none⟩ = some (.int .i64 r.Txn) ∧ w'.cell? ⟨w.heap.size + 1, 2, none⟩ = some (.int .i64 r.Time) ∧ w'.cell? ⟨w.heap.size + 1, 3, none⟩ = some (.int .i64 r.Lead) ∧ w'.cell? ⟨w.heap.size + 1, 4, none⟩ = some (.slice pr nr cr) ∧ w'.cell? ⟨w.heap.size + 1, 5, none⟩ = some (.slice pw nw cw) ∧ w'.cell? ⟨w.heap.size + 1, 6, none⟩ = some (.bool r.Yes)) (by kernel_rfl) ?_
          have hS : w4.drew.cell? ⟨g', o' + m * 3 + 1, none⟩ = some vL ∧ w4.drew.cell? ⟨w3.heap.size, 1, none⟩ = some (.int .i64 term) ∧ w4.drew.cell? ⟨w.heap.size + 1, 0, none⟩ = some (.int .i64 r.Kind) ∧ w4.drew.cell? ⟨w.heap.size + 1, 1, none⟩ = some (.int .i64 r.Txn) ∧ w4.drew.cell? ⟨w.heap.size + 1, 2, none⟩ = some (.int .i64 r.Time) ∧ w4.drew.cell? ⟨w.heap.size + 1, 3, none⟩ = some (.int .i64 r.Lead) ∧ w4.drew.cell? ⟨w.heap.size + 1, 4, none⟩ = some (.slice pr nr cr) ∧ w4.drew.cell? ⟨w.heap.size + 1, 5, none⟩ = some (.slice pw nw cw) ∧ w4.drew.cell? ⟨w.heap.size + 1, 6, none⟩ = some (.bool r.Yes) := ⟨hcL, q1, d0, d1, d2, d3, d4, d5, d6⟩
          refine d_takeY (v := ?_) 0 rfl (by kernel_rfl) (fun _ _ _ h => h) (Or.inl ⟨by rfl, ?_⟩) hS ?_
          rotate_left
          · intro wx _
            first | (go_simp; done) | (go_simp; with_reducible rfl)
          simp only [Act.put, List.setIfInBounds_toArray, List.set_cons_zero, List.set_cons_succ]
          refine d_take (f := 30) (v := ?_) 1 rfl (by kernel_rfl) (fun _ _ _ h => h) (Or.inl ⟨by rfl, ?_⟩) hS ?_
          rotate_left
          · intro wx hx
            obtain ⟨x0, x1, x2, x3, x4, x5, x6, x7, x8⟩ := hx
            first | (go_simp; done) | (go_simp; with_reducible rfl)
          simp only [Act.put, List.setIfInBounds_toArray, List.set_cons_zero, List.set_cons_succ]
          refine d_take (f := 30) (v := ?_) 2 rfl (by kernel_rfl) (fun _ _ _ h => h) (Or.inl ⟨by rfl, ?_⟩) hS ?_
          rotate_left
          · intro wx hx
            obtain ⟨x0, x1, x2, x3, x4, x5, x6, x7, x8⟩ := hx
            first | (go_simp; done) | (go_simp; with_reducible rfl)
          simp only [Act.put, List.setIfInBounds_toArray, List.set_cons_zero, List.set_cons_succ]
          refine d_take (f := 30) (v := ?_) 3 rfl (by kernel_rfl) (fun _ _ _ h => h) (Or.inl ⟨by rfl, ?_⟩) hS ?_
          rotate_left
          · intro wx hx
            obtain ⟨x0, x1, x2, x3, x4, x5, x6, x7, x8⟩ := hx
            first | (go_simp; done) | (go_simp; with_reducible rfl)
          simp only [Act.put, List.setIfInBounds_toArray, List.set_cons_zero, List.set_cons_succ]
          refine d_take (f := 30) (v := ?_) 4 rfl (by kernel_rfl) (fun _ _ _ h => h) (Or.inl ⟨by rfl, ?_⟩) hS ?_
          rotate_left
          · intro wx hx
            obtain ⟨x0, x1, x2, x3, x4, x5, x6, x7, x8⟩ := hx
            first | (go_simp; done) | (go_simp; with_reducible rfl)
          simp only [Act.put, List.setIfInBounds_toArray, List.set_cons_zero, List.set_cons_succ]
          refine d_take (f := 30) (v := ?_) 5 rfl (by kernel_rfl) (fun _ _ _ h => h) (Or.inl ⟨by rfl, ?_⟩) hS ?_
          rotate_left
          · intro wx hx
            obtain ⟨x0, x1, x2, x3, x4, x5, x6, x7, x8⟩ := hx
            first | (go_simp; done) | (go_simp; with_reducible rfl)
          simp only [Act.put, List.setIfInBounds_toArray, List.set_cons_zero, List.set_cons_succ]
          refine d_take (f := 30) (v := ?_) 6 rfl (by kernel_rfl) (fun _ _ _ h => h) (Or.inl ⟨by rfl, ?_⟩) hS ?_
          rotate_left
          · intro wx hx
            obtain ⟨x0, x1, x2, x3, x4, x5, x6, x7, x8⟩ := hx
            first | (go_simp; done) | (go_simp; with_reducible rfl)
          simp only [Act.put, List.setIfInBounds_toArray, List.set_cons_zero, List.set_cons_succ]
          refine d_take (f := 30) (v := ?_) 7 rfl (by kernel_rfl) (fun _ _ _ h => h) (Or.inl ⟨by rfl, ?_⟩) hS ?_
          rotate_left
          · intro wx hx
            obtain ⟨x0, x1, x2, x3, x4, x5, x6, x7, x8⟩ := hx
            first | (go_simp; done) | (go_simp; with_reducible rfl)
          simp only [Act.put, List.setIfInBounds_toArray, List.set_cons_zero, List.set_cons_succ]
          clear hS
          refine d_step 8 (by kernel_rfl) rfl (fun K hK => ?_)
          go_simp
          go_at_call 36
          refine (Hcp.out _ (by (repeat (first | (with_reducible exact Below.refl _ _) | (with_reducible refine below_setCell ?_ (by first | (simp; done) | (simp; omega) | omega)) | (with_reducible refine below_alloc _ ?_) | (with_reducible refine below_drewN ?_ _) | (with_reducible refine below_drew_step ?_) | (with_reducible assumption) | (with_reducible refine below_after (by assumption) ?_))))).mono ?_
          rintro e w5 ⟨⟨pR, cR, pW, cW, f, rfl, hx, hm⟩, k5⟩
          have kb5 : Below w4.heap.size w4 w5 := below_after k5 (by (repeat (first | (with_reducible exact Below.refl _ _) | (with_reducible refine below_setCell ?_ (by first | (simp; done) | (simp; omega) | omega)) | (with_reducible refine below_alloc _ ?_) | (with_reducible refine below_drewN ?_ _) | (with_reducible refine below_drew_step ?_) | (with_reducible assumption) | (with_reducible refine below_after (by assumption) ?_))))
          have hmm := hm.mono (base' := w4.heap.size) (by first | exact Nat.le_refl _ | (simp; done) | (simp; omega))
          have hfl4 : ∀ d ∈ fp, d < w4.heap.size := fun d hd => by have := hfl d hd; omega
          have hR5 := Cod.rdR_frame Cod.entry (fun d hd => kb5.block d (hfl4 d hd)) hR4
          have hM5 := hM4.frame (fun d hd => kb5.block d (hfl4 d hd))
          have hdis : ∀ d ∈ f, d ∉ fp := fun d hd hd' => by have := hmm.low d hd; have := hfl d hd'; omega
          have z5 : w4.heap.size ≤ w5.heap.size := kb5.size
          refine hK.out _ _ (fun _ => ⟨cell_step kb5 hcL, cell_step kb5 q1, cell_step kb5 d0, cell_step kb5 d1, cell_step kb5 d2, cell_step kb5 d3, cell_step kb5 d4, cell_step kb5 d5, cell_step kb5 d6⟩) ?_
          clear hK K k5 hm
          try simp only [Act.put, List.setIfInBounds_toArray, List.set_cons_zero, List.set_cons_succ]
          have hS5 : w5.cell? ⟨g', o' + m * 3 + 1, none⟩ = some vL ∧ w5.cell? ⟨w3.heap.size, 1, none⟩ = some (.int .i64 term) ∧ w5.cell? ⟨w.heap.size + 1, 0, none⟩ = some (.int .i64 r.Kind) ∧ w5.cell? ⟨w.heap.size + 1, 1, none⟩ = some (.int .i64 r.Txn) ∧ w5.cell? ⟨w.heap.size + 1, 2, none⟩ = some (.int .i64 r.Time) ∧ w5.cell? ⟨w.heap.size + 1, 3, none⟩ = some (.int .i64 r.Lead) ∧ w5.cell? ⟨w.heap.size + 1, 4, none⟩ = some (.slice pr nr cr) ∧ w5.cell? ⟨w.heap.size + 1, 5, none⟩ = some (.slice pw nw cw) ∧ w5.cell? ⟨w.heap.size + 1, 6, none⟩ = some (.bool r.Yes) := ⟨cell_step kb5 hcL, cell_step kb5 q1, cell_step kb5 d0, cell_step kb5 d1, cell_step kb5 d2, cell_step kb5 d3, cell_step kb5 d4, cell_step kb5 d5, cell_step kb5 d6⟩
          refine d_takeY (v := ?_) 9 rfl (by kernel_rfl) (fun _ _ _ h => h) (Or.inl ⟨by rfl, ?_⟩) hS5 ?_
          rotate_left
          · intro wx _
            first | (go_simp; done) | (go_simp; with_reducible rfl)
          simp only [Act.put, List.setIfInBounds_toArray, List.set_cons_zero, List.set_cons_succ]
          refine d_step 10 (by kernel_rfl) rfl (fun K hK => ?_)
          go_simp
          refine hK.out _ _ (fun _ => by
            obtain ⟨x0, x1, x2, x3, x4, x5, x6, x7, x8⟩ := hS5
            exact ⟨(cell_alloc_old (by omega)).trans x0, (cell_alloc_old (by omega)).trans x1, (cell_alloc_old (by omega)).trans x2, (cell_alloc_old (by omega)).trans x3, (cell_alloc_old (by omega)).trans x4, (cell_alloc_old (by omega)).trans x5, (cell_alloc_old (by omega)).trans x6, (cell_alloc_old (by omega)).trans x7, (cell_alloc_old (by omega)).trans x8⟩) ?_
          clear hK K hS5
          try simp only [Act.put, List.setIfInBounds_toArray, List.set_cons_zero, List.set_cons_succ]
          refine d_step 11 (by kernel_rfl) rfl (fun K hK => ?_)
          refine step_append_rdR (c := Cod.entry) w5 rfl (.tmp 44) (.tmp 50) 39 rfl w2.heap.size 61 61 j0 (.agg #[.int .i64 0, .int .i64 0, .int .i64 0, .int .i64 0, .int .i64 0, .slice none 0 0, .slice none 0 0, .bool false]) 96 Try.underlying39 hi hz0 hz1 hz2 rfl (by decide) (by decide) vL l[m].Log fp (by simp [Act.eval, Act.put]) hR5 hM5 (by omega) ⟨term, r⟩ f [.int .i64 term, .int .i64 r.Kind, .int .i64 r.Txn, .int .i64 r.Time, .int .i64 r.Lead, .slice pR nr cR, .slice pW nw cW, .bool r.Yes] rfl hx hdis w5.heap.size rfl (by simp [Act.eval, Act.put]) (by simp [Value.oneCell']) (by rw [hL]; unfold room; omega) ?_
          intro gL oL cap' w6 fpo hR6 hF hfz hb6 ho6
          have hfx : ∀ d ∈ f, d < w5.heap.size := Cod.entry.old hx
          have hob : ∀ d, d < w3.heap.size → d ∉ fp → w6.heap[d]? = w3.heap[d]? := fun d h1 h2 => (ho6 d (by omega) h2).trans ((kb5.block d (by omega)).trans (hold4 d h1))
          have hob4 : ∀ d, d < w4.heap.size → d ∉ fp → w6.heap[d]? = w4.heap[d]? := fun d h1 h2 => (ho6 d (by omega) h2).trans (kb5.block d h1)
          have hfl6 : w3.heap.size ∉ fp := fun hd => by have := hfl _ hd; omega
          have hrs : w.heap.size + 1 + 1 ∉ fp := fun hd => by have := hM.low _ hd; omega
          have c6 : w6.cell? ⟨g', o' + m * 3 + 1, none⟩ = some vL := (World.cell?_of_block (a := ⟨g', o' + m * 3 + 1, none⟩) (hob4 g' hg4 hgfp)).trans hcL
          have f6 : w6.frozen? ⟨g', o' + m * 3 + 1, none⟩ = false := (World.frozen?_of_block (a := ⟨g', o' + m * 3 + 1, none⟩) (hob4 g' hg4 hgfp)).trans hfL
          replace q0 := (World.cell?_of_block (a := ⟨w3.heap.size, 0, none⟩) (hob4 w3.heap.size (by omega) hfl6)).trans q0
          replace q1 := (World.cell?_of_block (a := ⟨w3.heap.size, 1, none⟩) (hob4 w3.heap.size (by omega) hfl6)).trans q1
          replace q2 := (World.cell?_of_block (a := ⟨w3.heap.size, 2, none⟩) (hob4 w3.heap.size (by omega) hfl6)).trans q2
          replace r0 := (World.cell?_of_block (a := ⟨w.heap.size + 1 + 1, 0, none⟩) (hob4 (w.heap.size + 1 + 1) (by omega) hrs)).trans r0
          replace g0 := (World.frozen?_of_block (a := ⟨w.heap.size + 1 + 1, 0, none⟩) (hob4 (w.heap.size + 1 + 1) (by omega) hrs)).trans g0
          replace r1 := (World.cell?_of_block (a := ⟨w.heap.size + 1 + 1, 1, none⟩) (hob4 (w.heap.size + 1 + 1) (by omega) hrs)).trans r1
          replace g1 := (World.frozen?_of_block (a := ⟨w.heap.size + 1 + 1, 1, none⟩) (hob4 (w.heap.size + 1 + 1) (by omega) hrs)).trans g1
          replace r2 := (World.cell?_of_block (a := ⟨w.heap.size + 1 + 1, 2, none⟩) (hob4 (w.heap.size + 1 + 1) (by omega) hrs)).trans r2
          replace g2 := (World.frozen?_of_block (a := ⟨w.heap.size + 1 + 1, 2, none⟩) (hob4 (w.heap.size + 1 + 1) (by omega) hrs)).trans g2
          have b6 : Below w.heap.size w w6 := (b4.trans (kb5.mono b4.size)).trans (hb6.mono b2.size)
          have z6 : w5.heap.size ≤ w6.heap.size := hb6.size
          have O7 := Lib.hid (Hset.out w6 _ _ _ hR6 ?nd ?lo ?fr (fun d _ h1 h2 => hob d h1 h2) (by omega))
          case nd =>
            refine List.nodup_cons.2 ⟨fun hd => ?_, List.nodup_append.2 ⟨hF.1, hmm.nodup, fun x hx1 y hy e => hdis y hy (e ▸ hF.2.1 x hx1)⟩⟩
            rcases List.mem_append.1 hd with hd | hd
            · exact hF.2.2.1 hd
            · rcases hF.2.2.2 with h | h
              · exact hdis _ hd h
              · have := hfx _ hd; omega
          case lo =>
            intro d hd
            rcases List.mem_cons.1 hd with rfl | hd
            · rcases hF.2.2.2 with h | h
              · exact ⟨hM.low _ h, Or.inl h⟩
              · exact ⟨by omega, Or.inr (by omega)⟩
            · rcases List.mem_append.1 hd with hd | hd
              · exact ⟨hM.low _ (hF.2.1 d hd), Or.inl (hF.2.1 d hd)⟩
              · have := hmm.low d hd
                exact ⟨by omega, Or.inr (by omega)⟩
          case fr =>
            intro d hd i
            by_cases hd1 : d ∈ gL :: fpo
            · exact hfz d hd1 i
            · have hd2 : d ∈ f := by
                rcases List.mem_cons.1 hd with rfl | hd
                · exact absurd (List.mem_cons_self) hd1
                · rcases List.mem_append.1 hd with hd | hd
                  · exact absurd (List.mem_cons_of_mem _ hd) hd1
                  · exact hd
              exact (World.frozen?_of_block (a := ⟨d, i, none⟩) (ho6 d (hfx d hd2) (hdis d hd2))).trans (hmm.free d hd2 i)
          rw [← Hst.out] at O7
          rw [hL] at O7
          clear hR6 hF hfz ho6 hob hob4 hR5 hM5 hx hmm hdis hfx hR hM hR4 hM4 hfl hfl4 hold4
          refine hK.out _ _ (fun h => by exact absurd h (by decide)) ?_
          clear hK K
          try simp only [Act.put, List.setIfInBounds_toArray, List.set_cons_zero, List.set_cons_succ]
          refine d_step 12 (by kernel_rfl) rfl (fun K hK => ?_)
          go_simp
          refine hK.out _ _ (fun h => by exact absurd h (by decide)) ?_
          clear hK K
          try simp only [Act.put, List.setIfInBounds_toArray, List.set_cons_zero, List.set_cons_succ]
          refine d_step 13 (by kernel_rfl) rfl (fun K hK => ?_)
          go_simp
          refine hK.out _ _ (fun h => by exact absurd h (by decide)) ?_
          clear hK K
          try simp only [Act.put, List.setIfInBounds_toArray, List.set_cons_zero, List.set_cons_succ]
          refine d_step 14 (by kernel_rfl) rfl (fun K hK => ?_)
          go_simp
          refine hK.out _ _ (fun h => by exact absurd h (by decide)) ?_
          clear hK K
          refine d_done (by kernel_rfl) ?_ _
          try simp only [Act.put, List.setIfInBounds_toArray, List.set_cons_zero, List.set_cons_succ]
          obtain ⟨w7, h7⟩ : ∃ w7, w6.setCell ⟨g', o' + m * 3 + 1, none⟩ (.slice (some ⟨gL, oL, none⟩) (nL + 1) cap') = w7 := ⟨_, rfl⟩
          rw [h7] at O7 ⊢
          have ot : ∀ b i, b ≠ g' → w7.cell? ⟨b, i, none⟩ = w6.cell? ⟨b, i, none⟩ := fun b i hb => by rw [← h7]; exact World.cell?_setCell_other _ _ _ _ (fun e => hb (congrArg Addr.block e).symm)
          have of : ∀ p, w7.frozen? p = w6.frozen? p := fun p => by rw [← h7, World.frozen?_setCell]
          have b7 : Below w.heap.size w w7 := by rw [← h7]; exact below_setCell b6 (by simp; omega)
          rw [← ot _ _ (by omega)] at q0 q1 q2 r0 r1 r2
          rw [← of] at g0 g1 g2
          clear h7 ot of c6 f6 hb6 b6
          go_wp2
          refine bodyPost_ret (v := .tuple #[.agg #[.slice (some ⟨g', o', none⟩) n c', .int .i64 term, .int .i64 (m : Int)], .bool true]) (by simp [results, Try.results13, go_sem, r0, r1, r2, g0, g1, g2]) rfl ⟨_, rfl, ?_, by (repeat (first | (with_reducible exact Below.refl _ _) | (with_reducible refine below_setCell ?_ (by first | (simp; done) | (simp; omega) | omega)) | (with_reducible refine below_alloc _ ?_) | (with_reducible refine below_drewN ?_ _) | (with_reducible assumption) | (with_reducible refine below_after (by assumption) ?_)))⟩
          exact (own_weakR (O7.out.keep (Nat.le_refl _) (by (repeat (first | (with_reducible exact Keep.refl _ _) | (with_reducible refine keep_set ?_ (by first | (simp; done) | (simp; omega) | omega)) | (with_reducible refine keep_alloc _ ?_) | (with_reducible refine keep_drewN ?_ _) | (with_reducible assumption) | (with_reducible refine keep_below (by assumption) ?_)))))).mono (by omega)

end Go.Proofs.Ytfaefjdlfjhniaa


/- spec.PutEntry. Printed by mkput.py. -/
namespace Go.Proofs.Ytfaefjdlfjhniaa
open Go.RowKit

set_option maxRecDepth 100000 in
set_option maxHeartbeats 6400000 in
/-- spec.PutEntry -/
theorem putS_any (v : Value) (l : List ReplicaD) (term lead : Int) (r : RecD) (ht : I64 term) (hd : I64 lead) (hl : costReplicaS l ≤ 1048576) (hc : costRec r ≤ 1048576) (i0 : I64 r.Kind) (i1 : I64 r.Txn) (i2 : I64 r.Time) (i3 : I64 r.Lead) (w : World) (h : Rd Cod.replica w v l) (a b : Value) (ra : Rd Cod.str w a r.Reads) (rb : Rd Cod.write w b r.Writes) :
    Calls Try.prog 65 #[.agg #[v, .int .i64 term, .int .i64 lead], .agg #[.int .i64 r.Kind, .int .i64 r.Txn, .int .i64 r.Time, .int .i64 r.Lead, a, b, .bool r.Yes]] w fun e w' => ∃ v', e = .returned (.tuple #[.agg #[v', .int .i64 (pickG (goodGB l term lead && putOk l lead && goodRB r) ⟨putL l term lead r, term, lead⟩).Term, .int .i64 (pickG (goodGB l term lead && putOk l lead && goodRB r) ⟨putL l term lead r, term, lead⟩).Lead], .bool (goodGB l term lead && putOk l lead && goodRB r)]) ∧
      Own Cod.replica w' w.heap.size v' (pickG (goodGB l term lead && putOk l lead && goodRB r) ⟨putL l term lead r, term, lead⟩).Reps ∧ Below w.heap.size w w' := by
  obtain ⟨j0, hi, hz0, hz1, hz2⟩ := info_parts Try_info_entry
  have hrl : r.Reads.length ≤ 1048576 ∧ r.Writes.length ≤ 1048576 := by unfold costRec costStringS costWriteS at hc; omega
  have Hg := Lib.hid (fun (W : World) (k : Below w.heap.size w W) => goodGroupS_any v l term lead ht hd hl W (h.below k))
  have Ho := Lib.hid (fun (W : World) (k : Below w.heap.size w W) => l9Own_any v l term lead hl W (h.below k))
  have Hr := Lib.hid (fun (W : World) (k : Below w.heap.size w W) => goodRecS_any r hrl.1 hrl.2 W a b (ra.below k) (rb.below k))
  have Hld := Lib.hid (fun (hg : goodGB l term lead = true) => good_lead hg)
  have Hlc := Lib.hid (fun (hg : goodGB l term lead = true) (hr : goodRB r = true) (m : Nat) (hm : m < l.length) => put_log_cost (term := term) hg hr hm)
  obtain ⟨fa, rfa⟩ := id ra
  obtain ⟨fb, rfb⟩ := id rb
  obtain ⟨p, c, rfl, _, _, rr⟩ := h.form
  have Rr := Lib.hid rr
  obtain ⟨pr, cr, rfl, -⟩ := ra.form
  obtain ⟨pw, cw, rfl, -⟩ := rb.form
  obtain ⟨n, hn⟩ : ∃ n : Nat, l.length = n := ⟨_, rfl⟩
  have Hn := Lib.hid hn
  have hnb : (n : Int) ≤ 1048576 := by unfold costReplicaS at hl; omega
  rw [hn] at Hg Ho ⊢
  generalize hnr : r.Reads.length = nr at *
  generalize hnw : r.Writes.length = nw at *
  clear hn hl h rr ra rb hrl hc
  generalize hq : goodGB l term lead = q at *
  cases q
  · clear hq
    dsimp only [pickG, Bool.false_and]
    go_enter Try.func65, Try.ntmps65
    go_wp2_with fail
    refine (Hg.out _ (by (repeat (first | (with_reducible exact Below.refl _ _) | (with_reducible refine below_setCell ?_ (by first | (simp; done) | (simp; omega) | omega)) | (with_reducible refine below_alloc _ ?_) | (with_reducible refine below_drewN ?_ _) | (with_reducible assumption) | (with_reducible refine below_after (by assumption) ?_))))).mono ?_
    rintro e w1 ⟨rfl, k1⟩
    have b1 : Below w.heap.size w w1 := below_after k1 (by (repeat (first | (with_reducible exact Below.refl _ _) | (with_reducible refine below_setCell ?_ (by first | (simp; done) | (simp; omega) | omega)) | (with_reducible refine below_alloc _ ?_) | (with_reducible refine below_drewN ?_ _) | (with_reducible assumption) | (with_reducible refine below_after (by assumption) ?_))))
    have hx1 := bcell k1
    have r0 : w1.cell? ⟨w.heap.size + 1 + 1, 0, none⟩ = some (.slice none 0 0) := by rw [hx1.1 _ _ (by first | (simp; done) | (simp; omega))]; simp [go_sem]
    have r1 : w1.cell? ⟨w.heap.size + 1 + 1, 1, none⟩ = some (.int .i64 0) := by rw [hx1.1 _ _ (by first | (simp; done) | (simp; omega))]; simp [go_sem]
    have r2 : w1.cell? ⟨w.heap.size + 1 + 1, 2, none⟩ = some (.int .i64 0) := by rw [hx1.1 _ _ (by first | (simp; done) | (simp; omega))]; simp [go_sem]
    have g0 : w1.frozen? ⟨w.heap.size + 1 + 1, 0, none⟩ = false := by rw [hx1.2 _ _ (by first | (simp; done) | (simp; omega))]; simp [go_sem]
    have g1 : w1.frozen? ⟨w.heap.size + 1 + 1, 1, none⟩ = false := by rw [hx1.2 _ _ (by first | (simp; done) | (simp; omega))]; simp [go_sem]
    have g2 : w1.frozen? ⟨w.heap.size + 1 + 1, 2, none⟩ = false := by rw [hx1.2 _ _ (by first | (simp; done) | (simp; omega))]; simp [go_sem]
    clear k1 hx1
    go_wp2
    refine bodyPost_ret (v := .tuple #[.agg #[.slice none 0 0, .int .i64 0, .int .i64 0], .bool false]) (by simp [results, Try.results65, go_sem, r0, r1, r2]) rfl ⟨_, rfl, own_nil _ _ _, by (repeat (first | (with_reducible exact Below.refl _ _) | (with_reducible refine below_setCell ?_ (by first | (simp; done) | (simp; omega) | omega)) | (with_reducible refine below_alloc _ ?_) | (with_reducible refine below_drewN ?_ _) | (with_reducible assumption) | (with_reducible refine below_after (by assumption) ?_)))⟩
  · by_cases hneg : lead < 0
    · rw [putOk_neg hneg]
      clear hq
      dsimp only [pickG, Bool.and_false, Bool.false_and]
      go_enter Try.func65, Try.ntmps65
      go_wp2_with fail
      refine (Hg.out _ (by (repeat (first | (with_reducible exact Below.refl _ _) | (with_reducible refine below_setCell ?_ (by first | (simp; done) | (simp; omega) | omega)) | (with_reducible refine below_alloc _ ?_) | (with_reducible refine below_drewN ?_ _) | (with_reducible assumption) | (with_reducible refine below_after (by assumption) ?_))))).mono ?_
      rintro e w1 ⟨rfl, k1⟩
      have b1 : Below w.heap.size w w1 := below_after k1 (by (repeat (first | (with_reducible exact Below.refl _ _) | (with_reducible refine below_setCell ?_ (by first | (simp; done) | (simp; omega) | omega)) | (with_reducible refine below_alloc _ ?_) | (with_reducible refine below_drewN ?_ _) | (with_reducible assumption) | (with_reducible refine below_after (by assumption) ?_))))
      have hx1 := bcell k1
      have c0 : w1.cell? ⟨w.heap.size, 0, none⟩ = some (.slice p n c) := by rw [hx1.1 _ _ (by first | (simp; done) | (simp; omega))]; simp [go_sem]
      have c1 : w1.cell? ⟨w.heap.size, 1, none⟩ = some (.int .i64 term) := by rw [hx1.1 _ _ (by first | (simp; done) | (simp; omega))]; simp [go_sem]
      have c2 : w1.cell? ⟨w.heap.size, 2, none⟩ = some (.int .i64 lead) := by rw [hx1.1 _ _ (by first | (simp; done) | (simp; omega))]; simp [go_sem]
      have r0 : w1.cell? ⟨w.heap.size + 1 + 1, 0, none⟩ = some (.slice none 0 0) := by rw [hx1.1 _ _ (by first | (simp; done) | (simp; omega))]; simp [go_sem]
      have r1 : w1.cell? ⟨w.heap.size + 1 + 1, 1, none⟩ = some (.int .i64 0) := by rw [hx1.1 _ _ (by first | (simp; done) | (simp; omega))]; simp [go_sem]
      have r2 : w1.cell? ⟨w.heap.size + 1 + 1, 2, none⟩ = some (.int .i64 0) := by rw [hx1.1 _ _ (by first | (simp; done) | (simp; omega))]; simp [go_sem]
      have g0 : w1.frozen? ⟨w.heap.size + 1 + 1, 0, none⟩ = false := by rw [hx1.2 _ _ (by first | (simp; done) | (simp; omega))]; simp [go_sem]
      have g1 : w1.frozen? ⟨w.heap.size + 1 + 1, 1, none⟩ = false := by rw [hx1.2 _ _ (by first | (simp; done) | (simp; omega))]; simp [go_sem]
      have g2 : w1.frozen? ⟨w.heap.size + 1 + 1, 2, none⟩ = false := by rw [hx1.2 _ _ (by first | (simp; done) | (simp; omega))]; simp [go_sem]
      clear k1 hx1
      go_wp2
      refine bodyPost_ret (v := .tuple #[.agg #[.slice none 0 0, .int .i64 0, .int .i64 0], .bool false]) (by simp [results, Try.results65, go_sem, r0, r1, r2]) rfl ⟨_, rfl, own_nil _ _ _, by (repeat (first | (with_reducible exact Below.refl _ _) | (with_reducible refine below_setCell ?_ (by first | (simp; done) | (simp; omega) | omega)) | (with_reducible refine below_alloc _ ?_) | (with_reducible refine below_drewN ?_ _) | (with_reducible assumption) | (with_reducible refine below_after (by assumption) ?_)))⟩
    · obtain ⟨m, rfl, hml, h60⟩ := Hld.out rfl hneg
      have Hst := Lib.hid (putL_nat hml term r)
      have hok := putOk_nat hml
      have hmn : (m : Int) < (n : Int) := by have := Hn.out; omega
      have hm0 : (0 : Int) ≤ (m : Int) := by omega
      obtain ⟨gg, og, rfl, hgg, hcg⟩ := Rr.out (by have := Hn.out; omega)
      obtain ⟨_, ⟨vl, e1, rl⟩, _⟩ := at_replica (hcg m hml)
      rw [show og + m * Cod.replica.size = og + m * 3 from rfl] at e1
      obtain ⟨pl, cl, rfl, -⟩ := rl.form
      have Hlen : Hid (l[m].Log.length = l[m].Log.length) := Lib.hid rfl
      rw [hok]
      clear hok hcg rl Rr Hld hq
      generalize hL : l[m].Log.length = nL at *
      have hnL : (nL : Int) ≤ 60 := by omega
      generalize hqr : goodRB r = qr at *
      clear hqr
      by_cases hfull : nL < 60
      rotate_left
      · have hn60 : (nL : Int) = 60 := by omega
        have hb60 : ((nL : Int) == 60) = true := by simp; omega
        rw [decide_eq_false hfull]
        dsimp only [pickG, Bool.and_false, Bool.false_and, Bool.true_and]
        go_enter Try.func65, Try.ntmps65
        cases qr
        all_goals
          go_wp2_with fail
          refine (Hg.out _ (by (repeat (first | (with_reducible exact Below.refl _ _) | (with_reducible refine below_setCell ?_ (by first | (simp; done) | (simp; omega) | omega)) | (with_reducible refine below_alloc _ ?_) | (with_reducible refine below_drewN ?_ _) | (with_reducible assumption) | (with_reducible refine below_after (by assumption) ?_))))).mono ?_
          rintro e w1 ⟨rfl, k1⟩
          have b1 : Below w.heap.size w w1 := below_after k1 (by (repeat (first | (with_reducible exact Below.refl _ _) | (with_reducible refine below_setCell ?_ (by first | (simp; done) | (simp; omega) | omega)) | (with_reducible refine below_alloc _ ?_) | (with_reducible refine below_drewN ?_ _) | (with_reducible assumption) | (with_reducible refine below_after (by assumption) ?_))))
          have hx1 := bcell k1
          have c0 : w1.cell? ⟨w.heap.size, 0, none⟩ = some (.slice (some ⟨gg, og, none⟩) n c) := by rw [hx1.1 _ _ (by first | (simp; done) | (simp; omega))]; simp [go_sem]
          have c1 : w1.cell? ⟨w.heap.size, 1, none⟩ = some (.int .i64 term) := by rw [hx1.1 _ _ (by first | (simp; done) | (simp; omega))]; simp [go_sem]
          have c2 : w1.cell? ⟨w.heap.size, 2, none⟩ = some (.int .i64 (m : Int)) := by rw [hx1.1 _ _ (by first | (simp; done) | (simp; omega))]; simp [go_sem]
          have d0 : w1.cell? ⟨w.heap.size + 1, 0, none⟩ = some (.int .i64 r.Kind) := by rw [hx1.1 _ _ (by first | (simp; done) | (simp; omega))]; simp [go_sem]
          have d1 : w1.cell? ⟨w.heap.size + 1, 1, none⟩ = some (.int .i64 r.Txn) := by rw [hx1.1 _ _ (by first | (simp; done) | (simp; omega))]; simp [go_sem]
          have d2 : w1.cell? ⟨w.heap.size + 1, 2, none⟩ = some (.int .i64 r.Time) := by rw [hx1.1 _ _ (by first | (simp; done) | (simp; omega))]; simp [go_sem]
          have d3 : w1.cell? ⟨w.heap.size + 1, 3, none⟩ = some (.int .i64 r.Lead) := by rw [hx1.1 _ _ (by first | (simp; done) | (simp; omega))]; simp [go_sem]
          have d4 : w1.cell? ⟨w.heap.size + 1, 4, none⟩ = some (.slice pr nr cr) := by rw [hx1.1 _ _ (by first | (simp; done) | (simp; omega))]; simp [go_sem]
          have d5 : w1.cell? ⟨w.heap.size + 1, 5, none⟩ = some (.slice pw nw cw) := by rw [hx1.1 _ _ (by first | (simp; done) | (simp; omega))]; simp [go_sem]
          have d6 : w1.cell? ⟨w.heap.size + 1, 6, none⟩ = some (.bool r.Yes) := by rw [hx1.1 _ _ (by first | (simp; done) | (simp; omega))]; simp [go_sem]
          have r0 : w1.cell? ⟨w.heap.size + 1 + 1, 0, none⟩ = some (.slice none 0 0) := by rw [hx1.1 _ _ (by first | (simp; done) | (simp; omega))]; simp [go_sem]
          have r1 : w1.cell? ⟨w.heap.size + 1 + 1, 1, none⟩ = some (.int .i64 0) := by rw [hx1.1 _ _ (by first | (simp; done) | (simp; omega))]; simp [go_sem]
          have r2 : w1.cell? ⟨w.heap.size + 1 + 1, 2, none⟩ = some (.int .i64 0) := by rw [hx1.1 _ _ (by first | (simp; done) | (simp; omega))]; simp [go_sem]
          have g0 : w1.frozen? ⟨w.heap.size + 1 + 1, 0, none⟩ = false := by rw [hx1.2 _ _ (by first | (simp; done) | (simp; omega))]; simp [go_sem]
          have g1 : w1.frozen? ⟨w.heap.size + 1 + 1, 1, none⟩ = false := by rw [hx1.2 _ _ (by first | (simp; done) | (simp; omega))]; simp [go_sem]
          have g2 : w1.frozen? ⟨w.heap.size + 1 + 1, 2, none⟩ = false := by rw [hx1.2 _ _ (by first | (simp; done) | (simp; omega))]; simp [go_sem]
          have z1 : w.heap.size + 1 + 1 < w1.heap.size := by have := k1.size; simp at this; omega
          replace e1 := cell_step b1 e1
          clear k1 hx1
          go_wp2_with fail
          refine (Hr.out _ b1).mono ?_
          rintro e w2 ⟨rfl, k2⟩
          have b2 : Below w.heap.size w w2 := below_after k2 b1
          replace c0 := cell_step k2 c0
          replace c1 := cell_step k2 c1
          replace c2 := cell_step k2 c2
          replace d0 := cell_step k2 d0
          replace d1 := cell_step k2 d1
          replace d2 := cell_step k2 d2
          replace d3 := cell_step k2 d3
          replace d4 := cell_step k2 d4
          replace d5 := cell_step k2 d5
          replace d6 := cell_step k2 d6
          replace r0 := cell_step k2 r0
          replace r1 := cell_step k2 r1
          replace r2 := cell_step k2 r2
          replace e1 := cell_step k2 e1
          replace g0 : w2.frozen? ⟨w.heap.size + 1 + 1, 0, none⟩ = false := (k2.frozen (p := ⟨w.heap.size + 1 + 1, 0, none⟩) z1).trans g0
          replace g1 : w2.frozen? ⟨w.heap.size + 1 + 1, 1, none⟩ = false := (k2.frozen (p := ⟨w.heap.size + 1 + 1, 1, none⟩) z1).trans g1
          replace g2 : w2.frozen? ⟨w.heap.size + 1 + 1, 2, none⟩ = false := (k2.frozen (p := ⟨w.heap.size + 1 + 1, 2, none⟩) z1).trans g2
          replace z1 : w.heap.size + 1 + 1 < w2.heap.size := Nat.lt_of_lt_of_le z1 k2.size
          clear k2
          go_wp2
          refine bodyPost_ret (v := .tuple #[.agg #[.slice none 0 0, .int .i64 0, .int .i64 0], .bool false]) (by simp [results, Try.results65, go_sem, r0, r1, r2]) rfl ⟨_, rfl, own_nil _ _ _, by (repeat (first | (with_reducible exact Below.refl _ _) | (with_reducible refine below_setCell ?_ (by first | (simp; done) | (simp; omega) | omega)) | (with_reducible refine below_alloc _ ?_) | (with_reducible refine below_drewN ?_ _) | (with_reducible assumption) | (with_reducible refine below_after (by assumption) ?_)))⟩
      · have hn60 : (nL : Int) < 60 := by omega
        have hb60 : ((nL : Int) == 60) = false := by simp; omega
        rw [decide_eq_true hfull]
        clear hfull
        cases qr
        all_goals
          dsimp only [pickG, Bool.and_false, Bool.false_and, Bool.true_and]
          go_enter Try.func65, Try.ntmps65
          go_wp2_with fail
          refine (Hg.out _ (by (repeat (first | (with_reducible exact Below.refl _ _) | (with_reducible refine below_setCell ?_ (by first | (simp; done) | (simp; omega) | omega)) | (with_reducible refine below_alloc _ ?_) | (with_reducible refine below_drewN ?_ _) | (with_reducible assumption) | (with_reducible refine below_after (by assumption) ?_))))).mono ?_
          rintro e w1 ⟨rfl, k1⟩
          have b1 : Below w.heap.size w w1 := below_after k1 (by (repeat (first | (with_reducible exact Below.refl _ _) | (with_reducible refine below_setCell ?_ (by first | (simp; done) | (simp; omega) | omega)) | (with_reducible refine below_alloc _ ?_) | (with_reducible refine below_drewN ?_ _) | (with_reducible assumption) | (with_reducible refine below_after (by assumption) ?_))))
          have hx1 := bcell k1
          have c0 : w1.cell? ⟨w.heap.size, 0, none⟩ = some (.slice (some ⟨gg, og, none⟩) n c) := by rw [hx1.1 _ _ (by first | (simp; done) | (simp; omega))]; simp [go_sem]
          have c1 : w1.cell? ⟨w.heap.size, 1, none⟩ = some (.int .i64 term) := by rw [hx1.1 _ _ (by first | (simp; done) | (simp; omega))]; simp [go_sem]
          have c2 : w1.cell? ⟨w.heap.size, 2, none⟩ = some (.int .i64 (m : Int)) := by rw [hx1.1 _ _ (by first | (simp; done) | (simp; omega))]; simp [go_sem]
          have d0 : w1.cell? ⟨w.heap.size + 1, 0, none⟩ = some (.int .i64 r.Kind) := by rw [hx1.1 _ _ (by first | (simp; done) | (simp; omega))]; simp [go_sem]
          have d1 : w1.cell? ⟨w.heap.size + 1, 1, none⟩ = some (.int .i64 r.Txn) := by rw [hx1.1 _ _ (by first | (simp; done) | (simp; omega))]; simp [go_sem]
          have d2 : w1.cell? ⟨w.heap.size + 1, 2, none⟩ = some (.int .i64 r.Time) := by rw [hx1.1 _ _ (by first | (simp; done) | (simp; omega))]; simp [go_sem]
          have d3 : w1.cell? ⟨w.heap.size + 1, 3, none⟩ = some (.int .i64 r.Lead) := by rw [hx1.1 _ _ (by first | (simp; done) | (simp; omega))]; simp [go_sem]
          have d4 : w1.cell? ⟨w.heap.size + 1, 4, none⟩ = some (.slice pr nr cr) := by rw [hx1.1 _ _ (by first | (simp; done) | (simp; omega))]; simp [go_sem]
          have d5 : w1.cell? ⟨w.heap.size + 1, 5, none⟩ = some (.slice pw nw cw) := by rw [hx1.1 _ _ (by first | (simp; done) | (simp; omega))]; simp [go_sem]
          have d6 : w1.cell? ⟨w.heap.size + 1, 6, none⟩ = some (.bool r.Yes) := by rw [hx1.1 _ _ (by first | (simp; done) | (simp; omega))]; simp [go_sem]
          have r0 : w1.cell? ⟨w.heap.size + 1 + 1, 0, none⟩ = some (.slice none 0 0) := by rw [hx1.1 _ _ (by first | (simp; done) | (simp; omega))]; simp [go_sem]
          have r1 : w1.cell? ⟨w.heap.size + 1 + 1, 1, none⟩ = some (.int .i64 0) := by rw [hx1.1 _ _ (by first | (simp; done) | (simp; omega))]; simp [go_sem]
          have r2 : w1.cell? ⟨w.heap.size + 1 + 1, 2, none⟩ = some (.int .i64 0) := by rw [hx1.1 _ _ (by first | (simp; done) | (simp; omega))]; simp [go_sem]
          have g0 : w1.frozen? ⟨w.heap.size + 1 + 1, 0, none⟩ = false := by rw [hx1.2 _ _ (by first | (simp; done) | (simp; omega))]; simp [go_sem]
          have g1 : w1.frozen? ⟨w.heap.size + 1 + 1, 1, none⟩ = false := by rw [hx1.2 _ _ (by first | (simp; done) | (simp; omega))]; simp [go_sem]
          have g2 : w1.frozen? ⟨w.heap.size + 1 + 1, 2, none⟩ = false := by rw [hx1.2 _ _ (by first | (simp; done) | (simp; omega))]; simp [go_sem]
          have z1 : w.heap.size + 1 + 1 < w1.heap.size := by have := k1.size; simp at this; omega
          replace e1 := cell_step b1 e1
          clear k1 hx1
          go_wp2_with fail
          refine (Hr.out _ b1).mono ?_
          rintro e w2 ⟨rfl, k2⟩
          have b2 : Below w.heap.size w w2 := below_after k2 b1
          replace c0 := cell_step k2 c0
          replace c1 := cell_step k2 c1
          replace c2 := cell_step k2 c2
          replace d0 := cell_step k2 d0
          replace d1 := cell_step k2 d1
          replace d2 := cell_step k2 d2
          replace d3 := cell_step k2 d3
          replace d4 := cell_step k2 d4
          replace d5 := cell_step k2 d5
          replace d6 := cell_step k2 d6
          replace r0 := cell_step k2 r0
          replace r1 := cell_step k2 r1
          replace r2 := cell_step k2 r2
          replace e1 := cell_step k2 e1
          replace g0 : w2.frozen? ⟨w.heap.size + 1 + 1, 0, none⟩ = false := (k2.frozen (p := ⟨w.heap.size + 1 + 1, 0, none⟩) z1).trans g0
          replace g1 : w2.frozen? ⟨w.heap.size + 1 + 1, 1, none⟩ = false := (k2.frozen (p := ⟨w.heap.size + 1 + 1, 1, none⟩) z1).trans g1
          replace g2 : w2.frozen? ⟨w.heap.size + 1 + 1, 2, none⟩ = false := (k2.frozen (p := ⟨w.heap.size + 1 + 1, 2, none⟩) z1).trans g2
          replace z1 : w.heap.size + 1 + 1 < w2.heap.size := Nat.lt_of_lt_of_le z1 k2.size
          clear k2
        · go_wp2
          refine bodyPost_ret (v := .tuple #[.agg #[.slice none 0 0, .int .i64 0, .int .i64 0], .bool false]) (by simp [results, Try.results65, go_sem, r0, r1, r2]) rfl ⟨_, rfl, own_nil _ _ _, by (repeat (first | (with_reducible exact Below.refl _ _) | (with_reducible refine below_setCell ?_ (by first | (simp; done) | (simp; omega) | omega)) | (with_reducible refine below_alloc _ ?_) | (with_reducible refine below_drewN ?_ _) | (with_reducible assumption) | (with_reducible refine below_after (by assumption) ?_)))⟩
        · go_wp2_with fail
          refine (Ho.out _ b2).mono ?_
          rintro e w3 ⟨v', rfl, o3, k3⟩
          obtain ⟨p', c', rfl⟩ := o3.form
          obtain ⟨g', o', rfl, hg1, hg2, _, _⟩ := own_atR o3 m hml
          have b3 : Below w.heap.size w w3 := below_after k3 b2
          replace c0 := cell_step k3 c0
          replace c1 := cell_step k3 c1
          replace c2 := cell_step k3 c2
          replace d0 := cell_step k3 d0
          replace d1 := cell_step k3 d1
          replace d2 := cell_step k3 d2
          replace d3 := cell_step k3 d3
          replace d4 := cell_step k3 d4
          replace d5 := cell_step k3 d5
          replace d6 := cell_step k3 d6
          replace r0 := cell_step k3 r0
          replace r1 := cell_step k3 r1
          replace r2 := cell_step k3 r2
          replace g0 : w3.frozen? ⟨w.heap.size + 1 + 1, 0, none⟩ = false := (k3.frozen (p := ⟨w.heap.size + 1 + 1, 0, none⟩) z1).trans g0
          replace g1 : w3.frozen? ⟨w.heap.size + 1 + 1, 1, none⟩ = false := (k3.frozen (p := ⟨w.heap.size + 1 + 1, 1, none⟩) z1).trans g1
          replace g2 : w3.frozen? ⟨w.heap.size + 1 + 1, 2, none⟩ = false := (k3.frozen (p := ⟨w.heap.size + 1 + 1, 2, none⟩) z1).trans g2
          have z3 : w2.heap.size ≤ w3.heap.size := k3.size
          have hn3 : l.length = n := Hn.out
          rw [hn3] at o3 ⊢
          obtain ⟨fp, vL, hR, hM, hgfp, hfl, hcL, hfL, hSet⟩ := own_logAt o3 m hml
          have Hset := Lib.hid hSet
          clear hSet
          go_upto_region 4 with fail
          obtain ⟨w4, h4⟩ : ∃ w4, w3.alloc (Obj.cells #[.slice (some ⟨g', o', none⟩) n c', .int .i64 term, .int .i64 (m : Int)] 27) = w4 := ⟨_, rfl⟩
          rw [h4]
          have hold4 : ∀ d, d < w3.heap.size → w4.heap[d]? = w3.heap[d]? := fun d hd => by rw [← h4]; exact Below.heap_alloc _ _ _ hd
          have b4 : Below w.heap.size w w4 := by rw [← h4]; (repeat (first | (with_reducible exact Below.refl _ _) | (with_reducible refine below_setCell ?_ (by first | (simp; done) | (simp; omega) | omega)) | (with_reducible refine below_alloc _ ?_) | (with_reducible refine below_drewN ?_ _) | (with_reducible assumption) | (with_reducible refine below_after (by assumption) ?_)))
          have z4 : w4.heap.size = w3.heap.size + 1 := by rw [← h4]; simp
          have q0 : w4.cell? ⟨w3.heap.size, 0, none⟩ = some ((.slice (some ⟨g', o', none⟩) n c')) := by rw [← h4]; simp [go_sem]
          have q1 : w4.cell? ⟨w3.heap.size, 1, none⟩ = some (.int .i64 term) := by rw [← h4]; simp [go_sem]
          have q2 : w4.cell? ⟨w3.heap.size, 2, none⟩ = some (.int .i64 (m : Int)) := by rw [← h4]; simp [go_sem]
          rw [← cell_alloc_old (by omega), h4] at c0 c1 c2 d0 d1 d2 d3 d4 d5 d6 r0 r1 r2 hcL
          rw [← frozen_alloc_old (by omega), h4] at g0 g1 g2 hfL
          have hR4 := Cod.rdR_frame Cod.entry (fun d hd => hold4 d (hfl d hd)) hR
          have hM4 := hM.frame (fun d hd => hold4 d (hfl d hd))
          clear h4 o3 k3
          have hg4 : g' < w4.heap.size := by omega
          have hrdE := mk_entryR (r := r) (term := term) ht i0 i1 i2 i3 (Cod.rdS_frame Cod.str (fun d hd => b4.block d (Cod.rdS_old Cod.str rfa d hd)) rfa) (Cod.rdS_frame Cod.write (fun d hd => b4.block d (Cod.rdS_old Cod.write rfb d hd)) rfb)
          have hdis : ∀ d ∈ fa ++ fb, d ∉ fp := fun d hd hd' => by
            have := hM.low d hd'
            rcases List.mem_append.1 hd with hd | hd
            · have := Cod.rdS_old Cod.str rfa d hd; omega
            · have := Cod.rdS_old Cod.write rfb d hd; omega
          refine wp_region_d 20 (fun w' => w'.cell? ⟨g', o' + m * 3 + 1, none⟩ = some vL ∧ w'.cell? ⟨w3.heap.size, 0, none⟩ = some (.slice (some ⟨g', o', none⟩) n c') ∧ w'.cell? ⟨w.heap.size, 1, none⟩ = some (.int .i64 term) ∧ w'.cell? ⟨w.heap.size, 2, none⟩ = some (.int .i64 (m : Int)) ∧ w'.cell? ⟨w.heap.size + 1, 0, none⟩ = some (.int .i64 r.Kind) ∧ w'.cell? ⟨w.heap.size + 1, 1, none⟩ = some (.int .i64 r.Txn) ∧ w'.cell? ⟨w.heap.size + 1, 2, none⟩ = some (.int .i64 r.Time) ∧ w'.cell? ⟨w.heap.size + 1, 3, none⟩ = some (.int .i64 r.Lead) ∧ w'.cell? ⟨w.heap.size + 1, 4, none⟩ = some (.slice pr nr cr) ∧ w'.cell? ⟨w.heap.size + 1, 5, none⟩ = some (.slice pw nw cw) ∧ w'.cell? ⟨w.heap.size + 1, 6, none⟩ = some (.bool r.Yes)) (by kernel_rfl) ?_
          have hS : w4.drew.cell? ⟨g', o' + m * 3 + 1, none⟩ = some vL ∧ w4.drew.cell? ⟨w3.heap.size, 0, none⟩ = some (.slice (some ⟨g', o', none⟩) n c') ∧ w4.drew.cell? ⟨w.heap.size, 1, none⟩ = some (.int .i64 term) ∧ w4.drew.cell? ⟨w.heap.size, 2, none⟩ = some (.int .i64 (m : Int)) ∧ w4.drew.cell? ⟨w.heap.size + 1, 0, none⟩ = some (.int .i64 r.Kind) ∧ w4.drew.cell? ⟨w.heap.size + 1, 1, none⟩ = some (.int .i64 r.Txn) ∧ w4.drew.cell? ⟨w.heap.size + 1, 2, none⟩ = some (.int .i64 r.Time) ∧ w4.drew.cell? ⟨w.heap.size + 1, 3, none⟩ = some (.int .i64 r.Lead) ∧ w4.drew.cell? ⟨w.heap.size + 1, 4, none⟩ = some (.slice pr nr cr) ∧ w4.drew.cell? ⟨w.heap.size + 1, 5, none⟩ = some (.slice pw nw cw) ∧ w4.drew.cell? ⟨w.heap.size + 1, 6, none⟩ = some (.bool r.Yes) := ⟨hcL, q0, c1, c2, d0, d1, d2, d3, d4, d5, d6⟩
          refine d_take (f := 30) (v := ?_) 0 rfl (by kernel_rfl) (fun _ _ _ h => h) (Or.inl ⟨by rfl, ?_⟩) hS ?_
          rotate_left
          · intro wx hx
            obtain ⟨x0, x1, x2, x3, x4, x5, x6, x7, x8, x9, x10⟩ := hx
            first | (go_simp; done) | (go_simp; with_reducible rfl)
          simp only [Act.put, List.setIfInBounds_toArray, List.set_cons_zero, List.set_cons_succ]
          refine d_take (f := 30) (v := ?_) 1 rfl (by kernel_rfl) (fun _ _ _ h => h) (Or.inl ⟨by rfl, ?_⟩) hS ?_
          rotate_left
          · intro wx hx
            obtain ⟨x0, x1, x2, x3, x4, x5, x6, x7, x8, x9, x10⟩ := hx
            first | (go_simp; done) | (go_simp; with_reducible rfl)
          simp only [Act.put, List.setIfInBounds_toArray, List.set_cons_zero, List.set_cons_succ]
          refine d_take (f := 30) (v := ?_) 2 rfl (by kernel_rfl) (fun _ _ _ h => h) (Or.inl ⟨by rfl, ?_⟩) hS ?_
          rotate_left
          · intro wx hx
            obtain ⟨x0, x1, x2, x3, x4, x5, x6, x7, x8, x9, x10⟩ := hx
            first | (go_simp; done) | (go_simp; with_reducible rfl)
          simp only [Act.put, List.setIfInBounds_toArray, List.set_cons_zero, List.set_cons_succ]
          refine d_take (f := 30) (v := ?_) 3 rfl (by kernel_rfl) (fun _ _ _ h => h) (Or.inl ⟨by rfl, ?_⟩) hS ?_
          rotate_left
          · intro wx hx
            obtain ⟨x0, x1, x2, x3, x4, x5, x6, x7, x8, x9, x10⟩ := hx
            first | (go_simp; done) | (go_simp; with_reducible rfl)
          simp only [Act.put, List.setIfInBounds_toArray, List.set_cons_zero, List.set_cons_succ]
          refine d_take (f := 30) (v := ?_) 4 rfl (by kernel_rfl) (fun _ _ _ h => h) (Or.inl ⟨by rfl, ?_⟩) hS ?_
          rotate_left
          · intro wx hx
            obtain ⟨x0, x1, x2, x3, x4, x5, x6, x7, x8, x9, x10⟩ := hx
            first | (go_simp; done) | (go_simp; with_reducible rfl)
          simp only [Act.put, List.setIfInBounds_toArray, List.set_cons_zero, List.set_cons_succ]
          refine d_take (f := 30) (v := ?_) 5 rfl (by kernel_rfl) (fun _ _ _ h => h) (Or.inl ⟨by rfl, ?_⟩) hS ?_
          rotate_left
          · intro wx hx
            obtain ⟨x0, x1, x2, x3, x4, x5, x6, x7, x8, x9, x10⟩ := hx
            first | (go_simp; done) | (go_simp; with_reducible rfl)
          simp only [Act.put, List.setIfInBounds_toArray, List.set_cons_zero, List.set_cons_succ]
          refine d_take (f := 30) (v := ?_) 6 rfl (by kernel_rfl) (fun _ _ _ h => h) (Or.inl ⟨by rfl, ?_⟩) hS ?_
          rotate_left
          · intro wx hx
            obtain ⟨x0, x1, x2, x3, x4, x5, x6, x7, x8, x9, x10⟩ := hx
            first | (go_simp; done) | (go_simp; with_reducible rfl)
          simp only [Act.put, List.setIfInBounds_toArray, List.set_cons_zero, List.set_cons_succ]
          refine d_take (f := 30) (v := ?_) 7 rfl (by kernel_rfl) (fun _ _ _ h => h) (Or.inl ⟨by rfl, ?_⟩) hS ?_
          rotate_left
          · intro wx hx
            obtain ⟨x0, x1, x2, x3, x4, x5, x6, x7, x8, x9, x10⟩ := hx
            first | (go_simp; done) | (go_simp; with_reducible rfl)
          simp only [Act.put, List.setIfInBounds_toArray, List.set_cons_zero, List.set_cons_succ]
          refine d_take (f := 30) (v := ?_) 8 rfl (by kernel_rfl) (fun _ _ _ h => h) (Or.inl ⟨by rfl, ?_⟩) hS ?_
          rotate_left
          · intro wx hx
            obtain ⟨x0, x1, x2, x3, x4, x5, x6, x7, x8, x9, x10⟩ := hx
            first | (go_simp; done) | (go_simp; with_reducible rfl)
          simp only [Act.put, List.setIfInBounds_toArray, List.set_cons_zero, List.set_cons_succ]
          refine d_take (f := 30) (v := ?_) 9 rfl (by kernel_rfl) (fun _ _ _ h => h) (Or.inl ⟨by rfl, ?_⟩) hS ?_
          rotate_left
          · intro wx hx
            obtain ⟨x0, x1, x2, x3, x4, x5, x6, x7, x8, x9, x10⟩ := hx
            first | (go_simp; done) | (go_simp; with_reducible rfl)
          simp only [Act.put, List.setIfInBounds_toArray, List.set_cons_zero, List.set_cons_succ]
          refine d_take (f := 30) (v := ?_) 10 rfl (by kernel_rfl) (fun _ _ _ h => h) (Or.inl ⟨by rfl, ?_⟩) hS ?_
          rotate_left
          · intro wx hx
            obtain ⟨x0, x1, x2, x3, x4, x5, x6, x7, x8, x9, x10⟩ := hx
            first | (go_simp; done) | (go_simp; with_reducible rfl)
          simp only [Act.put, List.setIfInBounds_toArray, List.set_cons_zero, List.set_cons_succ]
          refine d_take (f := 30) (v := ?_) 11 rfl (by kernel_rfl) (fun _ _ _ h => h) (Or.inl ⟨by rfl, ?_⟩) hS ?_
          rotate_left
          · intro wx hx
            obtain ⟨x0, x1, x2, x3, x4, x5, x6, x7, x8, x9, x10⟩ := hx
            first | (go_simp; done) | (go_simp; with_reducible rfl)
          simp only [Act.put, List.setIfInBounds_toArray, List.set_cons_zero, List.set_cons_succ]
          refine d_take (f := 30) (v := ?_) 12 rfl (by kernel_rfl) (fun _ _ _ h => h) (Or.inl ⟨by rfl, ?_⟩) hS ?_
          rotate_left
          · intro wx hx
            obtain ⟨x0, x1, x2, x3, x4, x5, x6, x7, x8, x9, x10⟩ := hx
            first | (go_simp; done) | (go_simp; with_reducible rfl)
          simp only [Act.put, List.setIfInBounds_toArray, List.set_cons_zero, List.set_cons_succ]
          refine d_take (f := 30) (v := ?_) 13 rfl (by kernel_rfl) (fun _ _ _ h => h) (Or.inl ⟨by rfl, ?_⟩) hS ?_
          rotate_left
          · intro wx hx
            obtain ⟨x0, x1, x2, x3, x4, x5, x6, x7, x8, x9, x10⟩ := hx
            first | (go_simp; done) | (go_simp; with_reducible rfl)
          simp only [Act.put, List.setIfInBounds_toArray, List.set_cons_zero, List.set_cons_succ]
          refine d_takeY (v := ?_) 14 rfl (by kernel_rfl) (fun _ _ _ h => h) (Or.inl ⟨by rfl, ?_⟩) hS ?_
          rotate_left
          · intro wx _
            first | (go_simp; done) | (go_simp; with_reducible rfl)
          simp only [Act.put, List.setIfInBounds_toArray, List.set_cons_zero, List.set_cons_succ]
          refine d_step 15 (by kernel_rfl) rfl (fun K hK => ?_)
          go_simp
          refine hK.out _ _ (fun _ => by
            obtain ⟨x0, x1, x2, x3, x4, x5, x6, x7, x8, x9, x10⟩ := hS
            exact ⟨(cell_alloc_old (by first | omega | (simp; omega) | (show _ < w4.heap.size; omega))).trans x0, (cell_alloc_old (by first | omega | (simp; omega) | (show _ < w4.heap.size; omega))).trans x1, (cell_alloc_old (by first | omega | (simp; omega) | (show _ < w4.heap.size; omega))).trans x2, (cell_alloc_old (by first | omega | (simp; omega) | (show _ < w4.heap.size; omega))).trans x3, (cell_alloc_old (by first | omega | (simp; omega) | (show _ < w4.heap.size; omega))).trans x4, (cell_alloc_old (by first | omega | (simp; omega) | (show _ < w4.heap.size; omega))).trans x5, (cell_alloc_old (by first | omega | (simp; omega) | (show _ < w4.heap.size; omega))).trans x6, (cell_alloc_old (by first | omega | (simp; omega) | (show _ < w4.heap.size; omega))).trans x7, (cell_alloc_old (by first | omega | (simp; omega) | (show _ < w4.heap.size; omega))).trans x8, (cell_alloc_old (by first | omega | (simp; omega) | (show _ < w4.heap.size; omega))).trans x9, (cell_alloc_old (by first | omega | (simp; omega) | (show _ < w4.heap.size; omega))).trans x10⟩) ?_
          clear hK K hS
          try simp only [Act.put, List.setIfInBounds_toArray, List.set_cons_zero, List.set_cons_succ]
          have hRd : Cod.rdR Cod.entry w4.drew vL l[m].Log fp := Cod.rdR_frame Cod.entry (w := w4) (w' := w4.drew) (fun _ _ => rfl) hR4
          have hMd : Mine w4.drew w2.heap.size fp := Mine.frame (w := w4) (w' := w4.drew) hM4 (fun _ _ => rfl)
          have hrdD := Cod.entry.frame (w := w4) (w' := w4.drew) (fun _ _ => rfl) hrdE
          refine d_step 16 (by kernel_rfl) rfl (fun K hK => ?_)
          refine step_append_rdR (c := Cod.entry) w4.drew rfl (.tmp 44) (.tmp 49) 39 rfl w2.heap.size 61 61 j0 (.agg #[.int .i64 0, .int .i64 0, .int .i64 0, .int .i64 0, .int .i64 0, .slice none 0 0, .slice none 0 0, .bool false]) 96 Try.underlying39 hi hz0 hz1 hz2 rfl (by decide) (by decide) vL l[m].Log fp (by simp [Act.eval, Act.put]) hRd hMd (by show _ ≤ w4.heap.size; omega) ⟨term, r⟩ (fa ++ fb) [.int .i64 term, .int .i64 r.Kind, .int .i64 r.Txn, .int .i64 r.Time, .int .i64 r.Lead, .slice pr nr cr, .slice pw nw cw, .bool r.Yes] rfl hrdD hdis w4.heap.size rfl (by simp [Act.eval, Act.put]) (by simp [Value.oneCell']) (by rw [hL]; unfold room; omega) ?_
          intro gL oL cap' w6 fpo hR6 hF hfz hb6 ho6
          have zd : w4.drew.heap.size = w4.heap.size := rfl
          have hob4 : ∀ d, d < w4.heap.size → d ∉ fp → w6.heap[d]? = w4.heap[d]? := fun d h1 h2 => ho6 d h1 h2
          have hob : ∀ d, d < w3.heap.size → d ∉ fp → w6.heap[d]? = w3.heap[d]? := fun d h1 h2 => (hob4 d (by omega) h2).trans (hold4 d h1)
          have hlow : ∀ d, d < w2.heap.size → d ∉ fp := fun d hd hd' => by have := hM.low _ hd'; omega
          have hfl6 : w3.heap.size ∉ fp := fun hd => by have := hfl _ hd; omega
          have m1 := hlow w.heap.size (by omega)
          have m2 := hlow (w.heap.size + 1) (by omega)
          have m3 := hlow (w.heap.size + 1 + 1) (by omega)
          replace hcL := (World.cell?_of_block (a := ⟨g', o' + m * 3 + 1, none⟩) (hob4 (g') (by omega) hgfp)).trans hcL
          replace q0 := (World.cell?_of_block (a := ⟨w3.heap.size, 0, none⟩) (hob4 (w3.heap.size) (by omega) hfl6)).trans q0
          replace q1 := (World.cell?_of_block (a := ⟨w3.heap.size, 1, none⟩) (hob4 (w3.heap.size) (by omega) hfl6)).trans q1
          replace q2 := (World.cell?_of_block (a := ⟨w3.heap.size, 2, none⟩) (hob4 (w3.heap.size) (by omega) hfl6)).trans q2
          replace c1 := (World.cell?_of_block (a := ⟨w.heap.size, 1, none⟩) (hob4 (w.heap.size) (by omega) m1)).trans c1
          replace c2 := (World.cell?_of_block (a := ⟨w.heap.size, 2, none⟩) (hob4 (w.heap.size) (by omega) m1)).trans c2
          replace d0 := (World.cell?_of_block (a := ⟨w.heap.size + 1, 0, none⟩) (hob4 (w.heap.size + 1) (by omega) m2)).trans d0
          replace d1 := (World.cell?_of_block (a := ⟨w.heap.size + 1, 1, none⟩) (hob4 (w.heap.size + 1) (by omega) m2)).trans d1
          replace d2 := (World.cell?_of_block (a := ⟨w.heap.size + 1, 2, none⟩) (hob4 (w.heap.size + 1) (by omega) m2)).trans d2
          replace d3 := (World.cell?_of_block (a := ⟨w.heap.size + 1, 3, none⟩) (hob4 (w.heap.size + 1) (by omega) m2)).trans d3
          replace d4 := (World.cell?_of_block (a := ⟨w.heap.size + 1, 4, none⟩) (hob4 (w.heap.size + 1) (by omega) m2)).trans d4
          replace d5 := (World.cell?_of_block (a := ⟨w.heap.size + 1, 5, none⟩) (hob4 (w.heap.size + 1) (by omega) m2)).trans d5
          replace d6 := (World.cell?_of_block (a := ⟨w.heap.size + 1, 6, none⟩) (hob4 (w.heap.size + 1) (by omega) m2)).trans d6
          replace r0 := (World.cell?_of_block (a := ⟨w.heap.size + 1 + 1, 0, none⟩) (hob4 (w.heap.size + 1 + 1) (by omega) m3)).trans r0
          replace r1 := (World.cell?_of_block (a := ⟨w.heap.size + 1 + 1, 1, none⟩) (hob4 (w.heap.size + 1 + 1) (by omega) m3)).trans r1
          replace r2 := (World.cell?_of_block (a := ⟨w.heap.size + 1 + 1, 2, none⟩) (hob4 (w.heap.size + 1 + 1) (by omega) m3)).trans r2
          replace hfL := (World.frozen?_of_block (a := ⟨g', o' + m * 3 + 1, none⟩) (hob4 g' hg4 hgfp)).trans hfL
          replace g0 := (World.frozen?_of_block (a := ⟨w.heap.size + 1 + 1, 0, none⟩) (hob4 (w.heap.size + 1 + 1) (by omega) m3)).trans g0
          replace g1 := (World.frozen?_of_block (a := ⟨w.heap.size + 1 + 1, 1, none⟩) (hob4 (w.heap.size + 1 + 1) (by omega) m3)).trans g1
          replace g2 := (World.frozen?_of_block (a := ⟨w.heap.size + 1 + 1, 2, none⟩) (hob4 (w.heap.size + 1 + 1) (by omega) m3)).trans g2
          have b6 : Below w.heap.size w w6 := b4.trans ((show Below w2.heap.size w4 w6 from ⟨hb6.os, hb6.tape, hb6.output, hb6.size, fun d hd => hb6.block d hd⟩).mono b2.size)
          have z6 : w4.heap.size ≤ w6.heap.size := hb6.size
          rw [hL] at hR6
          have H7 := Lib.hid (fun (W : World) (k : Below w6.heap.size w6 W) => l9OwnLog_r (.slice (some ⟨gL, oL, none⟩) (nL + 1) cap') (l[m].Log ++ [⟨term, r⟩]) (Hlc.out (by simp) (by simp) m hml) W (Rd.below (show Rd Cod.entry w6 _ _ from ⟨_, Cod.rdR_rdS hR6⟩) k))
          rw [hL]
          refine hK.out _ _ (fun _ => ⟨hcL, q0, c1, c2, d0, d1, d2, d3, d4, d5, d6⟩) ?_
          clear hK K hR6 hF hfz ho6 hob4 hb6 hrdE hrdD hRd hMd hR4 hM4
          try simp only [Act.put, List.setIfInBounds_toArray, List.set_cons_zero, List.set_cons_succ]
          refine d_step 17 (by kernel_rfl) rfl (fun K hK => ?_)
          go_simp
          go_at_call 53
          refine (H7.out _ (Below.refl _ _)).mono ?_
          rintro e w7 ⟨v7, rfl, o7, k7⟩
          obtain ⟨p7, c7, e7⟩ := o7.form
          obtain ⟨n7, hn7⟩ : ∃ n7 : Nat, (l[m].Log ++ [(⟨term, r⟩ : EntryD)]).length = n7 := ⟨_, rfl⟩
          rw [hn7] at e7
          subst e7
          clear hn7
          obtain ⟨fq, hq7, hm7⟩ := o7
          have O7 := Lib.hid (Hset.out w7 (.slice p7 n7 c7) _ fq hq7 hm7.nodup (fun d hd => by have := hm7.low d hd; exact ⟨by omega, Or.inr (by omega)⟩) hm7.free (fun d _ h1 h2 => (k7.block d (by omega)).trans (hob d h1 h2)) (by have := k7.size; omega))
          rw [← Hst.out] at O7
          have b7 : Below w.heap.size w w7 := below_after k7 b6
          replace hfL := (k7.frozen (p := ⟨g', o' + m * 3 + 1, none⟩) (by show g' < _; omega)).trans hfL
          replace g0 := (k7.frozen (p := ⟨w.heap.size + 1 + 1, 0, none⟩) (by show w.heap.size + 1 + 1 < _; omega)).trans g0
          replace g1 := (k7.frozen (p := ⟨w.heap.size + 1 + 1, 1, none⟩) (by show w.heap.size + 1 + 1 < _; omega)).trans g1
          replace g2 := (k7.frozen (p := ⟨w.heap.size + 1 + 1, 2, none⟩) (by show w.heap.size + 1 + 1 < _; omega)).trans g2
          replace hcL := cell_step k7 hcL
          replace q0 := cell_step k7 q0
          replace c1 := cell_step k7 c1
          replace c2 := cell_step k7 c2
          replace d0 := cell_step k7 d0
          replace d1 := cell_step k7 d1
          replace d2 := cell_step k7 d2
          replace d3 := cell_step k7 d3
          replace d4 := cell_step k7 d4
          replace d5 := cell_step k7 d5
          replace d6 := cell_step k7 d6
          replace q1 := cell_step k7 q1
          replace q2 := cell_step k7 q2
          replace r0 := cell_step k7 r0
          replace r1 := cell_step k7 r1
          replace r2 := cell_step k7 r2
          have z7 : w6.heap.size ≤ w7.heap.size := k7.size
          clear hq7 hm7 hob hold4 hR hM hfl hlow H7 k7
          refine hK.out _ _ (fun _ => ⟨hcL, q0, c1, c2, d0, d1, d2, d3, d4, d5, d6⟩) ?_
          clear hK K
          try simp only [Act.put, List.setIfInBounds_toArray, List.set_cons_zero, List.set_cons_succ]
          refine d_step 18 (by kernel_rfl) rfl (fun K hK => ?_)
          go_simp
          refine hK.out _ _ (fun _ => ⟨hcL, q0, c1, c2, d0, d1, d2, d3, d4, d5, d6⟩) ?_
          clear hK K
          try simp only [Act.put, List.setIfInBounds_toArray, List.set_cons_zero, List.set_cons_succ]
          refine d_step 19 (by kernel_rfl) rfl (fun K hK => ?_)
          go_simp
          refine hK.out _ _ (fun _ => ⟨hcL, q0, c1, c2, d0, d1, d2, d3, d4, d5, d6⟩) ?_
          clear hK K
          try simp only [Act.put, List.setIfInBounds_toArray, List.set_cons_zero, List.set_cons_succ]
          refine d_step 20 (by kernel_rfl) rfl (fun K hK => ?_)
          go_simp
          refine hK.out _ _ (fun h => by exact absurd h (by decide)) ?_
          clear hK K
          refine d_done (by kernel_rfl) ?_ _
          try simp only [Act.put, List.setIfInBounds_toArray, List.set_cons_zero, List.set_cons_succ]
          obtain ⟨w8, h8⟩ : ∃ w8, w7.setCell ⟨g', o' + m * 3 + 1, none⟩ (.slice p7 n7 c7) = w8 := ⟨_, rfl⟩
          rw [h8] at O7 ⊢
          have ot : ∀ b i, b ≠ g' → w8.cell? ⟨b, i, none⟩ = w7.cell? ⟨b, i, none⟩ := fun b i hb => by rw [← h8]; exact World.cell?_setCell_other _ _ _ _ (fun e => hb (congrArg Addr.block e).symm)
          have of : ∀ p, w8.frozen? p = w7.frozen? p := fun p => by rw [← h8, World.frozen?_setCell]
          have b8 : Below w.heap.size w w8 := by rw [← h8]; exact below_setCell b7 (by simp; omega)
          rw [← ot _ _ (by omega)] at q0 q1 q2 r0 r1 r2
          rw [← of] at g0 g1 g2
          clear h8 ot of hcL hfL b7
          go_wp2
          refine bodyPost_ret (v := .tuple #[.agg #[.slice (some ⟨g', o', none⟩) n c', .int .i64 term, .int .i64 (m : Int)], .bool true]) (by simp [results, Try.results65, go_sem, r0, r1, r2, g0, g1, g2]) rfl ⟨_, rfl, ?_, by (repeat (first | (with_reducible exact Below.refl _ _) | (with_reducible refine below_setCell ?_ (by first | (simp; done) | (simp; omega) | omega)) | (with_reducible refine below_alloc _ ?_) | (with_reducible refine below_drewN ?_ _) | (with_reducible assumption) | (with_reducible refine below_after (by assumption) ?_)))⟩
          exact (own_weakR (O7.out.keep (Nat.le_refl _) (by (repeat (first | (with_reducible exact Keep.refl _ _) | (with_reducible refine keep_set ?_ (by first | (simp; done) | (simp; omega) | omega)) | (with_reducible refine keep_alloc _ ?_) | (with_reducible refine keep_drewN ?_ _) | (with_reducible assumption) | (with_reducible refine keep_below (by assumption) ?_)))))).mono (by omega)

end Go.Proofs.Ytfaefjdlfjhniaa

