/- impl.GoodGroup. -/
import Derived.Test.YtogdbjalgledpaaGG2
namespace Go.Proofs.Ytogdbjalgledpaa
open Go.RowKit

theorem isMany_any (n : Nat) (hn : (n : Int) ≤ 1048576) (w : World) : Calls Try.prog 49 #[.int .i64 (n : Int)] w fun e w' => e = .returned (.bool (manyB n)) ∧ w = w' := by
  have e : manyB n = (((n : Int) == 3) || ((n : Int) == 5)) := by
    unfold manyB
    simp [bne, Bool.not_and]
  rw [e]
  clear e
  generalize h3 : ((n : Int) == 3) = a at *
  generalize h5 : ((n : Int) == 5) = b at *
  cases a <;> cases b
  all_goals
    go_enter Try.func49, Try.ntmps49
    go_wp2
    go_ret
    exact ⟨rfl, rfl⟩

theorem isRep_any (p : Option Addr) (n c : Nat) (hn : (n : Int) ≤ 1048576) (t d r : Int) (w : World) : Calls Try.prog 67 #[.agg #[.slice p n c, .int .i64 t, .int .i64 d], .int .i64 r] w fun e w' => e = .returned (.bool (inB r 0 ((n : Int) - 1))) ∧ Below w.heap.size w w' := by
  have H : Hid (∀ W, Calls Try.prog 80 #[.int .i64 r, .int .i64 0, .int .i64 ((n : Int) - 1)] W fun e w' => e = .returned (.bool (inB r 0 ((n : Int) - 1))) ∧ W = w') := Lib.hid fun W => within_any r 0 ((n : Int) - 1) W
  generalize inB r 0 ((n : Int) - 1) = q at *
  go_enter Try.func67, Try.ntmps67
  go_wp2_with fail
  refine (H.out _).mono ?_
  rintro e w1 ⟨rfl, rfl⟩
  go_wp2
  go_ret
  exact ⟨rfl, by (repeat (first | (with_reducible exact Below.refl _ _) | (with_reducible refine below_setCell ?_ (by first | (simp; done) | (simp; omega) | omega)) | (with_reducible refine below_alloc _ ?_) | (with_reducible refine below_drewN ?_ _) | (with_reducible assumption) | (with_reducible refine below_after (by assumption) ?_)))⟩

theorem all_any (l : List ReplicaD) (term : Int) : l.all (repB term) = !l.any (badRep term) := by
  induction l with
  | nil => rfl
  | cons x l ih =>
    rw [List.all_cons, List.any_cons, ih]
    unfold badRep
    cases repB term x <;> rfl

set_option maxRecDepth 100000 in
set_option maxHeartbeats 3200000 in
/-- impl.GoodGroup -/
theorem goodGroup_any (v : Value) (l : List ReplicaD) (term lead : Int) (ht : I64 term) (hd : I64 lead) (hl : costReplicaS l ≤ 1048576) (w : World) (h : Rd Cod.replica w v l) :
    Calls Try.prog 40 #[.agg #[v, .int .i64 term, .int .i64 lead]] w fun e w' => e = .returned (.bool (goodGB l term lead)) ∧ Below w.heap.size w w' := by
  have hln : l.length ≤ 1048576 := by unfold costReplicaS at hl; omega
  have Hc := Lib.hid (fun (W : World) (b : Below w.heap.size w W) (B : Nat) (hcB : W.cell? ⟨B, 1, none⟩ = some (.int .i64 term)) => grpCf_any v l term ht hln hl W (h.below b) B hcB)
  obtain ⟨p, c, rfl, _, _, r⟩ := h.form
  have R := Lib.hid r
  clear r h
  unfold goodGB
  rw [all_any]
  have hnb : (l.length : Int) ≤ 1048576 := by omega
  have H1 := Lib.hid (fun W => within_any term 0 200 W)
  have Hm := Lib.hid (fun W => isMany_any l.length hnb W)
  have Hr := Lib.hid (fun W => isRep_any p l.length c hnb term lead lead W)
  obtain ⟨hd1, hd2⟩ := hd
  obtain ⟨ht1, ht2⟩ := ht
  have hway : (lead = -1 ∧ inB lead (-1) ((l.length : Int) - 1) = true ∧ upB l lead = true) ∨ (lead ≠ -1 ∧ inB lead 0 ((l.length : Int) - 1) = false ∧ inB lead (-1) ((l.length : Int) - 1) = false) ∨
      (lead ≠ -1 ∧ inB lead 0 ((l.length : Int) - 1) = true ∧ inB lead (-1) ((l.length : Int) - 1) = true ∧ ∃ m : Nat, lead = (m : Int) ∧ m < l.length ∧ ∃ x g o, upB l lead = x.Up ∧ p = some ⟨g, o, none⟩ ∧ g < w.heap.size ∧ At Cod.replica w g (o + m * Cod.replica.size) x) := by
    by_cases h1 : lead = -1
    · subst h1
      exact Or.inl ⟨rfl, inB_iff.2 ⟨by omega, by omega⟩, by unfold upB; rfl⟩
    · by_cases h2 : inB lead 0 ((l.length : Int) - 1) = true
      · have h3 := inB_iff.1 h2
        obtain ⟨m, rfl⟩ : ∃ m : Nat, lead = (m : Int) := ⟨lead.toNat, by omega⟩
        have hml : m < l.length := by omega
        obtain ⟨g, o, hp, hg, hc⟩ := R.out (by omega)
        exact Or.inr (Or.inr ⟨h1, h2, inB_iff.2 ⟨by omega, by omega⟩, m, rfl, hml, l[m], g, o, by unfold upB; rw [decide_eq_false (by omega), Int.toNat_natCast, List.getElem?_eq_getElem hml]; rfl, hp, hg, hc m hml⟩)
      · refine Or.inr (Or.inl ⟨h1, by simpa using h2, ?_⟩)
        cases hq : inB lead (-1) ((l.length : Int) - 1) with
        | false => rfl
        | true =>
          have := inB_iff.1 hq
          exact absurd (inB_iff.2 ⟨by omega, by omega⟩) h2
  clear R
  generalize manyB l.length = q0 at *
  generalize inB term 0 200 = q1 at *
  generalize l.any (badRep term) = qa at *
  cases q0
  · clear hway
    generalize l.length = n at *
    go_enter Try.func40, Try.ntmps40
    go_wp2_with fail
    refine (Hm.out _).mono ?_
    rintro e w1 ⟨rfl, rfl⟩
    go_wp2
    go_ret
    exact ⟨ret_bool (by simp), by (repeat (first | (with_reducible exact Below.refl _ _) | (with_reducible refine below_setCell ?_ (by first | (simp; done) | (simp; omega) | omega)) | (with_reducible refine below_alloc _ ?_) | (with_reducible refine below_drewN ?_ _) | (with_reducible assumption) | (with_reducible refine below_after (by assumption) ?_)))⟩
  cases q1
  · clear hway
    generalize l.length = n at *
    go_enter Try.func40, Try.ntmps40
    go_wp2_with fail
    refine (Hm.out _).mono ?_
    rintro e w1 ⟨rfl, rfl⟩
    go_wp2_with fail
    refine (H1.out _).mono ?_
    rintro e w1 ⟨rfl, rfl⟩
    go_wp2
    go_ret
    exact ⟨ret_bool (by simp), by (repeat (first | (with_reducible exact Below.refl _ _) | (with_reducible refine below_setCell ?_ (by first | (simp; done) | (simp; omega) | omega)) | (with_reducible refine below_alloc _ ?_) | (with_reducible refine below_drewN ?_ _) | (with_reducible assumption) | (with_reducible refine below_after (by assumption) ?_)))⟩
  rcases hway with ⟨rfl, e1, e2⟩ | ⟨hne, e1, e2⟩ | ⟨hne, e1, e2, m, rfl, hml, x, g, o, e3, rfl, hg, at0⟩
  · have Hq : Hid ((((true && true) && inB (-1) (-1) ((l.length : Int) - 1)) && !qa && upB l (-1)) = !qa) := Lib.hid (by rw [e1, e2]; cases qa <;> rfl)
    rw [Hq.out]
    clear e1 e2 Hq
    generalize l.length = n at *
    go_enter Try.func40, Try.ntmps40
    go_wp2_with fail
    refine (Hm.out _).mono ?_
    rintro e w1 ⟨rfl, rfl⟩
    go_wp2_with fail
    refine (H1.out _).mono ?_
    rintro e w1 ⟨rfl, rfl⟩
    go_wp2_with fail
    refine (Hc.out _ (by (repeat (first | (with_reducible exact Below.refl _ _) | (with_reducible refine below_setCell ?_ (by first | (simp; done) | (simp; omega) | omega)) | (with_reducible refine below_alloc _ ?_) | (with_reducible refine below_drewN ?_ _) | (with_reducible assumption) | (with_reducible refine below_after (by assumption) ?_)))) _ (by simp [go_sem])).mono ?_
    rintro e w1 ⟨rfl, k1⟩
    go_wp2
    go_ret
    exact ⟨rfl, below_after k1 (by (repeat (first | (with_reducible exact Below.refl _ _) | (with_reducible refine below_setCell ?_ (by first | (simp; done) | (simp; omega) | omega)) | (with_reducible refine below_alloc _ ?_) | (with_reducible refine below_drewN ?_ _) | (with_reducible assumption) | (with_reducible refine below_after (by assumption) ?_))))⟩
  · have Hq : Hid ((((true && true) && inB lead (-1) ((l.length : Int) - 1)) && !qa && upB l lead) = false) := Lib.hid (by rw [e2]; cases qa <;> rfl)
    rw [Hq.out]
    rw [e1] at Hr
    clear e1 e2 Hq
    have hb1 : (lead != -1) = true := by simpa using hne
    clear hne
    generalize l.length = n at *
    go_enter Try.func40, Try.ntmps40
    go_wp2_with fail
    refine (Hm.out _).mono ?_
    rintro e w1 ⟨rfl, rfl⟩
    go_wp2_with fail
    refine (H1.out _).mono ?_
    rintro e w1 ⟨rfl, rfl⟩
    go_wp2_with fail
    refine (Hr.out _).mono ?_
    rintro e w1 ⟨rfl, k1⟩
    go_wp2
    go_ret
    exact ⟨rfl, below_after k1 (by (repeat (first | (with_reducible exact Below.refl _ _) | (with_reducible refine below_setCell ?_ (by first | (simp; done) | (simp; omega) | omega)) | (with_reducible refine below_alloc _ ?_) | (with_reducible refine below_drewN ?_ _) | (with_reducible assumption) | (with_reducible refine below_after (by assumption) ?_))))⟩
  · have Hq : Hid ((((true && true) && inB (m : Int) (-1) ((l.length : Int) - 1)) && !qa && upB l (m : Int)) = (!qa && x.Up)) := Lib.hid (by rw [e2, e3]; cases qa <;> rfl)
    rw [Hq.out]
    rw [e1] at Hr
    clear e1 e2 e3 Hq
    have hb1 : ((m : Int) != -1) = true := by simp
    have hmI : (m : Int) < (l.length : Int) := by omega
    have hm0 : (0 : Int) ≤ (m : Int) := by omega
    clear hne hml
    obtain ⟨d0, _⟩ := at_replica at0
    rw [show o + m * Cod.replica.size = o + m * 3 from rfl] at *
    clear at0
    generalize x.Up = up at *
    generalize l.length = n at *
    cases up
    all_goals
      go_enter Try.func40, Try.ntmps40
      go_wp2_with fail
      refine (Hm.out _).mono ?_
      rintro e w1 ⟨rfl, rfl⟩
      go_wp2_with fail
      refine (H1.out _).mono ?_
      rintro e w1 ⟨rfl, rfl⟩
      go_wp2_with fail
      refine (Hr.out _).mono ?_
      rintro e w1 ⟨rfl, k1⟩
      have g0 : w1.cell? ⟨w.heap.size, 0, none⟩ = some (.slice (some ⟨g, o, none⟩) n c) := by rw [(bcell k1).1 _ _ (by simp)]; simp [go_sem]
      have g1 : w1.cell? ⟨w.heap.size, 1, none⟩ = some (.int .i64 term) := by rw [(bcell k1).1 _ _ (by simp)]; simp [go_sem]
      have g2 : w1.cell? ⟨w.heap.size, 2, none⟩ = some (.int .i64 (m : Int)) := by rw [(bcell k1).1 _ _ (by simp)]; simp [go_sem]
      have b1 : Below w.heap.size w w1 := below_after k1 (by (repeat (first | (with_reducible exact Below.refl _ _) | (with_reducible refine below_setCell ?_ (by first | (simp; done) | (simp; omega) | omega)) | (with_reducible refine below_alloc _ ?_) | (with_reducible refine below_drewN ?_ _) | (with_reducible assumption) | (with_reducible refine below_after (by assumption) ?_))))
      replace d0 := cell_step b1 d0
      clear k1
      first
        | (go_wp2
           go_ret
           exact ⟨ret_bool (by simp), b1⟩)
        | (go_wp2_with fail
           refine (Hc.out _ b1 _ g1).mono ?_
           rintro e w2 ⟨rfl, k2⟩
           go_wp2
           go_ret
           exact ⟨ret_bool (by simp), below_after k2 b1⟩)

end Go.Proofs.Ytogdbjalgledpaa
