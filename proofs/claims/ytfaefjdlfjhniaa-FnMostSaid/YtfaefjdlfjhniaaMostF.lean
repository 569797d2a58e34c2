/- laws.FnMost: what is known of its calls. Printed by mkmost.py. -/
import Derived.Test.YtfaefjdlfjhniaaRunb
import Derived.Test.YtfaefjdlfjhniaaMostL
import Derived.Test.YtfaefjdlfjhniaaHeld
namespace Go.Proofs.Ytfaefjdlfjhniaa
open Go.RowKit

/-- A group of n that was returned. -/
def RetN (n : Nat) (w : World) (l : List ReplicaD) (t d : Int) (e : Ending) (w' : World) : Prop :=
  ∃ p c, e = .returned (.tuple #[.agg #[.slice p n c, .int .i64 t, .int .i64 d], .bool true]) ∧ Own Cod.replica w' w.heap.size (.slice p n c) l ∧ Below w.heap.size w w'
theorem retN {n : Nat} {w : World} {l : List ReplicaD} {t d : Int} {e : Ending} {w' : World} (hl : l.length = n) (h : RetG w l t d e w') : RetN n w l t d e w' := by
  unfold RetG at h
  rw [hl] at h
  exact h
/-- A group that was returned, or none. -/
def RetE (w : World) (g : GroupD) (q : Bool) (e : Ending) (w' : World) : Prop :=
  ∃ p c, e = .returned (.tuple #[.agg #[.slice p g.Reps.length c, .int .i64 g.Term, .int .i64 g.Lead], .bool q]) ∧ Own Cod.replica w' w.heap.size (.slice p g.Reps.length c) g.Reps ∧ Below w.heap.size w w'

theorem most_run (cd : List UInt8) (f : Nat → Nat) {n d : Nat} (hn : n = 3 ∨ n = 5) (hd : d ≤ n) (hm : n < 2 * (n - d)) : ∀ k, k ≤ 5 → Run ⟨leadG n d (entsN cd f k) 0 0, 1, (d : Int)⟩ []
  | 0, _ => by
    have h := (downG_run hn d hd).elect (r := (d : Int)) (by rw [downG_elect hn hd (by omega), decide_eq_true hm]; simp)
    rw [leadG_zero] at h
    exact h
  | k + 1, h => by
    have h1 := most_run cd f hn hd hm k (by omega)
    have h2 := h1.put (r := recN cd (f k)) (leadG_putOk (by omega) (by rw [entsN_len]; omega) _ _) (recN_good _ _) (recN_light _ _)
    rw [leadG_put (by omega), ← entsN_succ] at h2
    exact h2
theorem most_copies {n d : Nat} {L : List EntryD} (R : Run ⟨leadG n d L 0 0, 1, (d : Int)⟩ []) : ∀ k, k ≤ n → Run ⟨leadG n d L k 0, 1, (d : Int)⟩ []
  | 0, _ => R
  | k + 1, h => by
    have h1 := most_copies R k (by omega)
    by_cases e : d < k
    · have h2 := h1.copy (r := (k : Int)) (by rw [leadG_copyB (by omega) h1, decide_eq_true e])
      rwa [leadG_copy (by omega) e] at h2
    · rwa [leadG_skip e] at h1

/-- What the walk needs of the group's run: d of n are down, m entries are put. -/
theorem most_facts (cd : List UInt8) (n d m : Nat) (hn : n = 3 ∨ n = 5) (hd : d ≤ n) (hm : m ≤ 5) : ∃ (A P Q : Nat → List ReplicaD) (E : Nat → GroupD) (F : List ReplicaD),
    (∀ W, Calls Try.prog 8 #[.int .i64 (n : Int)] W (RetN n W (A 0) 0 (-1))) ∧
    (∀ k, k < d → ∀ W p c, Rd Cod.replica W (.slice p n c) (A k) → Calls Try.prog 9 #[.agg #[.slice p n c, .int .i64 0, .int .i64 (-1)], .int .i64 (k : Int)] W (RetN n W (A (k + 1)) 0 (-1))) ∧
    (∀ r, r < n → ∀ W p c, Rd Cod.replica W (.slice p n c) (A d) → Calls Try.prog 10 #[.agg #[.slice p n c, .int .i64 0, .int .i64 (-1)], .int .i64 (r : Int)] W (RetE W (E r) (decide (n < 2 * (n - d)) && decide (d ≤ r)))) ∧
    (∀ r, r < n → ∀ W p c, Rd Cod.replica W (.slice p n c) (A d) → Calls Try.prog 11 #[.agg #[.slice p n c, .int .i64 0, .int .i64 (-1)], .int .i64 (r : Int)] W (RetE W (E r) (decide (n < 2 * (n - d)) && decide (d ≤ r)))) ∧
    (∀ r, r < n → ∀ W p c p' c', Rd Cod.replica W (.slice p (E r).Reps.length c) (E r).Reps → Rd Cod.replica W (.slice p' (E r).Reps.length c') (E r).Reps → Calls Try.prog 12 #[.agg #[.slice p (E r).Reps.length c, .int .i64 (E r).Term, .int .i64 (E r).Lead], .agg #[.slice p' (E r).Reps.length c', .int .i64 (E r).Term, .int .i64 (E r).Lead]] W fun e w' => e = .returned (.bool true) ∧ Below W.heap.size W w') ∧
    (n < 2 * (n - d) → ∀ W p c, Rd Cod.replica W (.slice p n c) (A d) → Calls Try.prog 10 #[.agg #[.slice p n c, .int .i64 0, .int .i64 (-1)], .int .i64 (d : Int)] W (RetN n W (P 0) 1 (d : Int))) ∧
    (n < 2 * (n - d) → ∀ k, k < m → ∀ W p c, Rd Cod.replica W (.slice p n c) (P k) → Calls Try.prog 13 #[.agg #[.slice p n c, .int .i64 1, .int .i64 (d : Int)], .agg #[.int .i64 (recN cd (3 * k + 3)).Kind, .int .i64 (recN cd (3 * k + 3)).Txn, .int .i64 (recN cd (3 * k + 3)).Time, .int .i64 (recN cd (3 * k + 3)).Lead, .slice none 0 0, .slice none 0 0, .bool (recN cd (3 * k + 3)).Yes]] W (RetN n W (P (k + 1)) 1 (d : Int))) ∧
    P m = Q 0 ∧
    (n < 2 * (n - d) → ∀ r, r < n → d < r → ∀ W p c, Rd Cod.replica W (.slice p n c) (Q r) → Calls Try.prog 15 #[.agg #[.slice p n c, .int .i64 1, .int .i64 (d : Int)], .int .i64 (r : Int)] W (RetN n W (Q (r + 1)) 1 (d : Int))) ∧
    (n < 2 * (n - d) → ∀ r, r < n → ¬ d < r → Q (r + 1) = Q r ∧ ∀ W p c, Rd Cod.replica W (.slice p n c) (Q r) → Calls Try.prog 15 #[.agg #[.slice p n c, .int .i64 1, .int .i64 (d : Int)], .int .i64 (r : Int)] W fun e w' => ∃ p c, e = .returned (.tuple #[.agg #[.slice p 0 c, .int .i64 0, .int .i64 0], .bool false]) ∧ Below W.heap.size W w') ∧
    (n < 2 * (n - d) → ∀ W p c, Rd Cod.replica W (.slice p n c) (Q n) → Calls Try.prog 16 #[.agg #[.slice p n c, .int .i64 1, .int .i64 (d : Int)]] W (RetN n W F 1 (d : Int))) ∧
    (n < 2 * (n - d) → ∀ W p c, Rd Cod.replica W (.slice p n c) F → Calls Try.prog 17 #[.agg #[.slice p n c, .int .i64 1, .int .i64 (d : Int)]] W fun e w' => ∃ p c, e = .returned (.tuple #[.slice p m c, .bool true]) ∧ Below W.heap.size W w') ∧
    (n < 2 * (n - d) → ∀ W p c, Rd Cod.replica W (.slice p n c) F → Calls Try.prog 18 #[.agg #[.slice p n c, .int .i64 1, .int .i64 (d : Int)]] W fun e w' => e = .returned (.bool true) ∧ Below W.heap.size W w') := by
  have hri : ∀ r : Nat, r ≤ n → I64 (r : Int) := fun r h => by unfold I64; omega
  have RA := downG_run hn
  have hAl : ∀ k, (downG n k).length = n := fun k => grpN_len _ _
  have hRmost := fun hmj : n < 2 * (n - d) => most_run cd (fun k => 3 * k + 3) hn hd hmj
  have hRcop := fun hmj : n < 2 * (n - d) => most_copies (hRmost hmj m hm)
  have hLm : ∀ e ∈ entsN cd (fun k => 3 * k + 3) m, e.Term = 1 := entsN_term _ _ _
  have hLl : (entsN cd (fun k => 3 * k + 3) m).length = m := entsN_len _ _ _
  have hNil : ∀ W, Rd Cod.str W (.slice none 0 0) [] := fun W => (own_nil _ W 0).rd
  refine ⟨downG n, fun k => leadG n d (entsN cd (fun k => 3 * k + 3) k) 0 0, fun r => leadG n d (entsN cd (fun k => 3 * k + 3) m) r 0, fun r => pickG (decide (n < 2 * (n - d)) && decide (d ≤ r)) ⟨downG n d, 1, (r : Int)⟩, leadG n d (entsN cd (fun k => 3 * k + 3) m) n m, ?_, ?_, ?_, ?_, ?_, ?_, ?_, ?_, ?_, ?_, ?_, ?_, ?_⟩
  · intro W
    have h := newRun_any n hn W
    rw [downG_zero] at h
    exact h.mono fun _ _ h => retN (hAl 0) h
  · intro k hk W p c h
    have h1 := crashRun_any (RA k (by omega)) (r := (k : Int)) (by rw [downG_up (by omega)]; simp) W h
    rw [downG_crash (by omega), crashD_ne (by omega)] at h1
    exact h1.mono fun _ _ h => retN (hAl _) h
  · intro r hr W p c h
    have h1 := elect_any _ _ 0 (-1) (r : Int) (RA d hd).i64t (RA d hd).i64d (hri r (by omega)) (RA d hd).cost W h
    rw [downG_elect hn hd hr] at h1
    refine h1.mono ?_
    rintro e w' ⟨v', rfl, ho, hb⟩
    obtain ⟨p, c, rfl⟩ := ho.form
    exact ⟨p, c, rfl, ho, hb⟩
  · intro r hr W p c h
    have h1 := electS_any _ _ 0 (-1) (r : Int) (RA d hd).i64t (RA d hd).i64d (hri r (by omega)) (RA d hd).cost W h
    rw [downG_elect hn hd hr] at h1
    refine h1.mono ?_
    rintro e w' ⟨v', rfl, ho, hb⟩
    obtain ⟨p, c, rfl⟩ := ho.form
    exact ⟨p, c, rfl, ho, hb⟩
  · intro r hr W p c p' c' h h'
    refine vGroup_any _ _ _ _ _ ?_ W h h'
    show costReplicaS (pickG (decide (n < 2 * (n - d)) && decide (d ≤ r)) ⟨downG n d, 1, (r : Int)⟩).Reps ≤ 1048576
    cases (decide (n < 2 * (n - d)) && decide (d ≤ r))
    · simp [pickG, costReplicaS, sumC]
    · exact (RA d hd).cost
  · intro hmj W p c h
    have h1 := electRun_any (RA d hd) (r := (d : Int)) (hri d hd) (by rw [downG_elect hn hd (by omega), decide_eq_true hmj]; simp) W h
    refine h1.mono fun _ _ h => retN (leadG_len _ _ _ _ _) ?_
    show RetG W (leadG n d [] 0 0) (0 + 1) _ _ _
    rw [← leadG_zero]
    exact h
  · intro hmj k hk W p c h
    have h1 := putRun_any (hRmost hmj k (by omega)) (recN_good cd (3 * k + 3)) (recN_i64 cd _) (leadG_putOk (by omega) (by rw [entsN_len]; omega) _ _) W h (.slice none 0 0) (.slice none 0 0) (by rw [(recN_light cd _).1]; exact (own_nil _ W 0).rd) (by rw [(recN_light cd _).2]; exact (own_nil _ W 0).rd)
    rw [leadG_put (by omega), ← entsN_succ (f := fun k => 3 * k + 3)] at h1
    exact h1.mono fun _ _ h => retN (leadG_len _ _ _ _ _) h
  · rfl
  · intro hmj r hr hdr W p c h
    have h1 := copyRun_any (hRcop hmj r (by omega)) (r := (r : Int)) (by rw [leadG_copyB hr (hRcop hmj r (by omega)), decide_eq_true hdr]) W h
    rw [leadG_copy hr hdr] at h1
    exact h1.mono fun _ _ h => retN (leadG_len _ _ _ _ _) h
  · intro hmj r hr hdr
    refine ⟨(leadG_skip hdr _ _).symm, fun W p c h => ?_⟩
    have R := hRcop hmj r (by omega)
    have h1 := copyTo_any _ _ 1 (d : Int) (r : Int) R.i64t R.i64d R.cost W h
    rw [leadG_copyB hr R, decide_eq_false hdr] at h1
    refine h1.mono ?_
    rintro e w' ⟨v', rfl, ho, hb⟩
    obtain ⟨p, c, rfl⟩ := ho.form
    exact ⟨p, c, rfl, hb⟩
  · intro hmj W p c h
    have R := hRcop hmj n (Nat.le_refl _)
    have h1 := advRun_any R (show (goodGB _ _ _ && !decide ((d : Int) < 0)) = true from by rw [R.good, decide_eq_false (by omega)]; rfl) W h
    rw [leadG_adv (by omega) hmj hLm, hLl] at h1
    exact h1.mono fun _ _ h => retN (leadG_len _ _ _ _ _) h
  · intro hmj W p c h
    obtain ⟨C, -, R⟩ := (hRcop hmj n (Nat.le_refl _)).adv (by omega)
    rw [leadG_adv (by omega) hmj hLm, hLl] at R
    have h1 := sureRun_any R (by omega) W h
    have e := leadG_sure (show d < n by omega) (entsN cd (fun k => 3 * k + 3) m)
    rw [hLl] at e
    rw [e, hLl] at h1
    exact h1.mono fun _ _ ⟨p, c, h1, _, h2⟩ => ⟨p, c, h1, h2⟩
  · intro hmj W p c h
    obtain ⟨C, -, R⟩ := (hRcop hmj n (Nat.le_refl _)).adv (by omega)
    rw [leadG_adv (by omega) hmj hLm, hLl] at R
    exact safeRun_any R W h

end Go.Proofs.Ytfaefjdlfjhniaa
