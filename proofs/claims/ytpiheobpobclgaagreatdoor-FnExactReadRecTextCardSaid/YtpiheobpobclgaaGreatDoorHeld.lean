/- A region that draws its order: loads may be taken first as long as an operation that waits for them has not come up. Plain lemmas over any program. -/
import Derived.Test.YtpiheobpobclgaaGreatDoorKit
import Derived.Deep.RegionHeld
import Derived.Deep.RegionLaw
namespace Go.Proofs.YtpiheobpobclgaaGreatDoor
open Go.RowKit

section
variable {P : Program} {ops : Array Oper} {Q : Exit → Act → World → Prop} {md : Region.Mode} {S : World → Prop} {m : Nat}

/-- Whatever order is picked from here on; behind every operation that is carried out before number m has come up S holds. -/
def wpAnyD (P : Program) (md : Region.Mode) (ops : Array Oper) (Q : Exit → Act → World → Prop) (S : World → Prop) (m : Nat) : Nat → Array Bool → Act → World → Prop
  | 0, listed, a, w => Region.ready md ops listed = [] ∧ Q .normal a w
  | fuel + 1, listed, a, w =>
    (Region.ready md ops listed = [] → Q .normal a w) ∧
    ∀ i ∈ Region.ready md ops listed, wpOp P ops Q i (fun a' w' => ((listed.setIfInBounds i true).getD m false = false → S w') ∧ wpAnyD P md ops Q S m fuel (listed.setIfInBounds i true) a' w') a w

theorem any_of_d : ∀ (fuel : Nat) (listed : Array Bool) (a : Act) (w : World), wpAnyD P md ops Q S m fuel listed a w → wpAny P md ops Q fuel listed a w
  | 0, _, _, _, h => h
  | fuel + 1, _, _, _, h => ⟨h.1, fun i hi => wpOp_mono (fun a' w' h' => any_of_d fuel _ a' w' h'.2) (h.2 i hi)⟩

/-- What has come up has come up behind what it waits for. -/
def closedB (md : Region.Mode) (ops : Array Oper) (listed : Array Bool) : Bool :=
  (List.range ops.size).all fun k => !listed.getD k false || match ops[k]? with
    | some o => o.after.all fun e => !Region.binds md e || listed.getD e.on false
    | none => true

/-- Number m waits for number i, by so many links. -/
def pathB (md : Region.Mode) (ops : Array Oper) (i : Nat) : Nat → Nat → Bool
  | 0, _ => false
  | f + 1, k => match ops[k]? with
    | some o => o.after.any fun e => Region.binds md e && (e.on == i || pathB md ops i f e.on)
    | none => false

theorem closed_spec {listed : Array Bool} (h : closedB md ops listed = true) {k : Nat} {o : Oper} (ho : ops[k]? = some o) (hk : listed.getD k false = true) : ∀ e ∈ o.after, Region.binds md e = true → listed.getD e.on false = true := by
  have hlt : k < ops.size := (Array.getElem?_eq_some_iff.1 ho).1
  have h1 := List.all_eq_true.1 h k (List.mem_range.2 hlt)
  rw [hk, ho] at h1
  simp only [Bool.not_true, Bool.false_or] at h1
  intro e he hb
  have h2 := Array.all_eq_true'.1 h1 e he
  rw [hb] at h2
  simpa using h2

theorem path_listed {listed : Array Bool} (h : closedB md ops listed = true) {i : Nat} : ∀ (f k : Nat), pathB md ops i f k = true → listed.getD k false = true → listed.getD i false = true
  | 0, _, hp, _ => by cases hp
  | f + 1, k, hp, hk => by
    unfold pathB at hp
    cases ho : ops[k]? with
    | none => rw [ho] at hp; cases hp
    | some o =>
      rw [ho] at hp
      obtain ⟨e, he, hb⟩ := Array.any_eq_true'.1 hp
      rw [Bool.and_eq_true, Bool.or_eq_true, beq_iff_eq] at hb
      have h1 := closed_spec h ho hk e he hb.1
      rcases hb.2 with h2 | h2
      · rw [← h2]; exact h1
      · exact path_listed h f e.on h2 h1

theorem path_ready {listed : Array Bool} (h : closedB md ops listed = true) {i f k : Nat} (hp : pathB md ops i f k = true) (hk : k ∈ Region.ready md ops listed) : listed.getD i false = true := by
  obtain ⟨_, o, ho, hall⟩ := mem_ready.1 hk
  cases f with
  | zero => cases hp
  | succ f =>
    unfold pathB at hp
    rw [ho] at hp
    obtain ⟨e, he, hb⟩ := Array.any_eq_true'.1 hp
    rw [Bool.and_eq_true, Bool.or_eq_true, beq_iff_eq] at hb
    have h1 := hall e he hb.1
    rcases hb.2 with h2 | h2
    · rw [← h2]; exact h1
    · exact path_listed h f e.on h2 h1

theorem closed_set {listed : Array Bool} (h : closedB md ops listed = true) {j : Nat} (hj : j ∈ Region.ready md ops listed) : closedB md ops (listed.setIfInBounds j true) = true := by
  refine List.all_eq_true.2 fun k hk => ?_
  cases ho : ops[k]? with
  | none => simp
  | some o =>
    by_cases hkl : (listed.setIfInBounds j true).getD k false = true
    · rw [hkl]
      simp only [Bool.not_true, Bool.false_or]
      refine Array.all_eq_true'.2 fun e he => ?_
      by_cases hb : Region.binds md e = true
      · rw [hb]
        simp only [Bool.not_true, Bool.false_or]
        by_cases hjk : j = k
        · subst hjk
          obtain ⟨_, o', ho', hall⟩ := mem_ready.1 hj
          rw [ho] at ho'
          injection ho' with ho'
          subst ho'
          exact getD_set_true (hall e he hb)
        · rw [getD_set_ne false hjk] at hkl
          exact getD_set_true (closed_spec h ho hkl e he hb)
      · rw [Bool.not_eq_true] at hb
        rw [hb]
        rfl
    · rw [Bool.not_eq_true] at hkl
      rw [hkl]
      rfl

theorem unlisted_false {listed : Array Bool} {i : Nat} (h : listed.getD i true = false) : listed.getD i false = false := by
  rcases Nat.lt_or_ge i listed.size with h' | h'
  · simp [h'] at h ⊢; exact h
  · simp [Array.getElem?_eq_none h'] at h

/-- An operation that may come up now may be taken first. -/
theorem d_first {i f : Nat} {oi : Oper} {v : Value} (hi : ops[i]? = some oi) (hsel : ∀ (j : Nat) (o : Oper) cs b, ops[j]? = some o → o.op ≠ .select cs b)
    (hQ : ∀ c a w, Q (.panic c) (a.put oi.dst v) w → Q (.panic c) a w) (hp : pathB md ops i f m = true) (hmi : m ≠ i) :
    ∀ (fuel : Nat) (listed : Array Bool) (a : Act) (w : World), closedB md ops listed = true →
      (∀ j oj, ops[j]? = some oj → j ≠ i → listed.getD j true = false → (∀ e ∈ oj.after, Region.binds md e = true → e.on ≠ i) → oi.apart ops oj = true) →
      i ∈ Region.ready md ops listed → YieldsIf P ops S oi v a → S w →
      wpAnyD P md ops Q S m fuel (listed.setIfInBounds i true) (a.put oi.dst v) w → wpAnyD P md ops Q S m (fuel + 1) listed a w := by
  intro fuel
  induction fuel with
  | zero =>
    intro listed a w _ _ hr hy hS H
    refine ⟨fun h => (by rw [h] at hr; cases hr), fun j hj => ?_⟩
    by_cases hji : j = i
    · subst hji; exact hy.wpOp hi hS ⟨fun _ => hS, H⟩
    · have := ready_mono hj hji
      rw [H.1] at this
      cases this
  | succ fuel ih =>
    intro listed a w hcl hfree hr hy hS H
    refine ⟨fun h => (by rw [h] at hr; cases hr), fun j hj => ?_⟩
    by_cases hji : j = i
    · subst hji; exact hy.wpOp hi hS ⟨fun _ => hS, H⟩
    · have h1 := H.2 j (ready_mono hj hji)
      obtain ⟨hjun, oj, hoj, hall⟩ := mem_ready.1 hj
      have hiun := (mem_ready.1 hr).1
      have hnot : ∀ e ∈ oj.after, Region.binds md e = true → e.on ≠ i := fun e he hb heq => by
        have h1 := hall e he hb
        rw [heq, unlisted_false hiun] at h1
        cases h1
      have hjm : j ≠ m := fun e => by
        subst e
        have := path_ready hcl hp hj
        rw [unlisted_false hiun] at this
        cases this
      have hmun : listed.getD m false = false := by
        cases hm : listed.getD m false
        · rfl
        · have := path_listed hcl _ _ hp hm
          rw [unlisted_false hiun] at this
          cases this
      have hpend : ((listed.setIfInBounds i true).setIfInBounds j true).getD m false = false := by
        rw [getD_set_ne false hjm, getD_set_ne false (Ne.symm hmi)]
        exact hmun
      have h2 := wpOp_putIf hoj (hfree j oj hoj hji hjun hnot) (fun cs b => hsel i oi cs b hi) (fun cs b => hsel j oj cs b hoj) hQ hy h1
      have hfree' : ∀ k ok, ops[k]? = some ok → k ≠ i → (listed.setIfInBounds j true).getD k true = false →
          (∀ e ∈ ok.after, Region.binds md e = true → e.on ≠ i) → oi.apart ops ok = true := fun k ok hk hki hun hno => by
        refine hfree k ok hk hki ?_ hno
        by_cases hjk : j = k
        · subst hjk; exact hjun
        · rw [getD_set_ne true hjk] at hun; exact hun
      refine wpOp_mono (fun a' w' h3 => ⟨fun _ => h3.2.1 hpend, ih (listed.setIfInBounds j true) a' w' (closed_set hcl hj) hfree' (ready_mono hr (Ne.symm hji)) h3.1 (h3.2.1 hpend) ?_⟩) h2
      rw [Array.setIfInBounds_comm _ _ hji]
      exact h3.2.2

/-- Take number i first. -/
theorem d_take (i : Nat) {f : Nat} {oi : Oper} {v : Value} {fuel : Nat} {listed : Array Bool} {a : Act} {w : World} (hi : ops[i]? = some oi)
    (hs : ((Region.noSelect ops && Region.free md ops listed i) && ((Region.ready md ops listed).contains i && closedB md ops listed)) && (pathB md ops i f m && decide (m ≠ i)) = true)
    (hQ : ∀ c a w, Q (.panic c) (a.put oi.dst v) w → Q (.panic c) a w) (hy : YieldsIf P ops S oi v a) (hS : S w)
    (h : wpAnyD P md ops Q S m fuel (listed.setIfInBounds i true) (a.put oi.dst v) w) : wpAnyD P md ops Q S m (fuel + 1) listed a w := by
  simp only [Bool.and_eq_true, decide_eq_true_eq] at hs
  obtain ⟨⟨⟨h1, h2⟩, h3, h4⟩, h5, h6⟩ := hs
  exact d_first hi (Region.noSelect_spec h1) hQ h5 h6 fuel listed a w h4 (Region.free_spec hi h2) (by simpa using h3) hy hS h

/-- An operation that yields its value in whatever world may be taken first. -/
theorem d_firstY {i : Nat} {oi : Oper} {v : Value} (hi : ops[i]? = some oi) (hsel : ∀ (j : Nat) (o : Oper) cs b, ops[j]? = some o → o.op ≠ .select cs b)
    (hQ : ∀ c a w, Q (.panic c) (a.put oi.dst v) w → Q (.panic c) a w) (hmi : m ≠ i) :
    ∀ (fuel : Nat) (listed : Array Bool) (a : Act) (w : World),
      (∀ j oj, ops[j]? = some oj → j ≠ i → listed.getD j true = false → (∀ e ∈ oj.after, Region.binds md e = true → e.on ≠ i) → oi.apart ops oj = true) →
      i ∈ Region.ready md ops listed → YieldsIf P ops (fun _ => True) oi v a → (listed.getD m false = false → S w) →
      wpAnyD P md ops Q S m fuel (listed.setIfInBounds i true) (a.put oi.dst v) w → wpAnyD P md ops Q S m (fuel + 1) listed a w := by
  intro fuel
  induction fuel with
  | zero =>
    intro listed a w _ hr hy hS H
    refine ⟨fun h => (by rw [h] at hr; cases hr), fun j hj => ?_⟩
    by_cases hji : j = i
    · subst hji; exact hy.wpOp hi trivial ⟨fun h => hS (by rw [getD_set_ne false (Ne.symm hmi)] at h; exact h), H⟩
    · have := ready_mono hj hji
      rw [H.1] at this
      cases this
  | succ fuel ih =>
    intro listed a w hfree hr hy hS H
    refine ⟨fun h => (by rw [h] at hr; cases hr), fun j hj => ?_⟩
    by_cases hji : j = i
    · subst hji; exact hy.wpOp hi trivial ⟨fun h => hS (by rw [getD_set_ne false (Ne.symm hmi)] at h; exact h), H⟩
    · have h1 := H.2 j (ready_mono hj hji)
      obtain ⟨hjun, oj, hoj, hall⟩ := mem_ready.1 hj
      have hiun := (mem_ready.1 hr).1
      have hnot : ∀ e ∈ oj.after, Region.binds md e = true → e.on ≠ i := fun e he hb heq => by
        have h1 := hall e he hb
        rw [heq, unlisted_false hiun] at h1
        cases h1
      have hpend : (listed.setIfInBounds j true).getD m false = false → ((listed.setIfInBounds i true).setIfInBounds j true).getD m false = false := fun h => by
        rw [Array.setIfInBounds_comm _ _ (Ne.symm hji), getD_set_ne false (Ne.symm hmi)]
        exact h
      have h2 := wpOp_putIf hoj (hfree j oj hoj hji hjun hnot) (fun cs b => hsel i oi cs b hi) (fun cs b => hsel j oj cs b hoj) hQ hy h1
      have hfree' : ∀ k ok, ops[k]? = some ok → k ≠ i → (listed.setIfInBounds j true).getD k true = false →
          (∀ e ∈ ok.after, Region.binds md e = true → e.on ≠ i) → oi.apart ops ok = true := fun k ok hk hki hun hno => by
        refine hfree k ok hk hki ?_ hno
        by_cases hjk : j = k
        · subst hjk; exact hjun
        · rw [getD_set_ne true hjk] at hun; exact hun
      refine wpOp_mono (fun a' w' h3 => ⟨fun h => h3.2.1 (hpend h), ih (listed.setIfInBounds j true) a' w' hfree' (ready_mono hr (Ne.symm hji)) h3.1 (fun h => h3.2.1 (hpend h)) ?_⟩) h2
      rw [Array.setIfInBounds_comm _ _ hji]
      exact h3.2.2

/-- Take number i first: it yields its value in whatever world. -/
theorem d_takeY (i : Nat) {oi : Oper} {v : Value} {fuel : Nat} {listed : Array Bool} {a : Act} {w : World} (hi : ops[i]? = some oi)
    (hs : ((Region.noSelect ops && Region.free md ops listed i) && ((Region.ready md ops listed).contains i && decide (m ≠ i))) = true)
    (hQ : ∀ c a w, Q (.panic c) (a.put oi.dst v) w → Q (.panic c) a w) (hy : YieldsIf P ops (fun _ => True) oi v a) (hS : S w)
    (h : wpAnyD P md ops Q S m fuel (listed.setIfInBounds i true) (a.put oi.dst v) w) : wpAnyD P md ops Q S m (fuel + 1) listed a w := by
  simp only [Bool.and_eq_true, decide_eq_true_eq] at hs
  obtain ⟨⟨h1, h2⟩, h3, h6⟩ := hs
  exact d_firstY hi (Region.noSelect_spec h1) hQ h6 fuel listed a w (Region.free_spec hi h2) (by simpa using h3) hy (fun _ => hS) h

/-- .. behind number m nothing is asked of the world. -/
theorem d_takeYL (i : Nat) {oi : Oper} {v : Value} {fuel : Nat} {listed : Array Bool} {a : Act} {w : World} (hi : ops[i]? = some oi)
    (hs : ((Region.noSelect ops && Region.free md ops listed i) && ((Region.ready md ops listed).contains i && (decide (m ≠ i) && listed.getD m false))) = true)
    (hQ : ∀ c a w, Q (.panic c) (a.put oi.dst v) w → Q (.panic c) a w) (hy : YieldsIf P ops (fun _ => True) oi v a)
    (h : wpAnyD P md ops Q S m fuel (listed.setIfInBounds i true) (a.put oi.dst v) w) : wpAnyD P md ops Q S m (fuel + 1) listed a w := by
  simp only [Bool.and_eq_true, decide_eq_true_eq] at hs
  obtain ⟨⟨h1, h2⟩, h3, h6, h7⟩ := hs
  exact d_firstY hi (Region.noSelect_spec h1) hQ h6 fuel listed a w (Region.free_spec hi h2) (by simpa using h3) hy (fun h8 => by rw [h7] at h8; cases h8) h

/-- One of two may come up. -/
theorem d_two (i j : Nat) {oi oj : Oper} {fuel : Nat} {listed : Array Bool} {a : Act} {w : World} (hr : Region.ready md ops listed = [i, j]) (hi : ops[i]? = some oi) (hj : ops[j]? = some oj)
    (h : ∀ K : Act → World → Prop, Shut (∀ a' w', ((listed.setIfInBounds i true).getD m false = false → S w') → wpAnyD P md ops Q S m fuel (listed.setIfInBounds i true) a' w' → K a' w') →
      if Region.wanted oi (yielded ops a.tmps) = true then Oper.wp P oi a w K Q else K (a.put oi.dst undef) w)
    (h' : ∀ K : Act → World → Prop, Shut (∀ a' w', ((listed.setIfInBounds j true).getD m false = false → S w') → wpAnyD P md ops Q S m fuel (listed.setIfInBounds j true) a' w' → K a' w') →
      if Region.wanted oj (yielded ops a.tmps) = true then Oper.wp P oj a w K Q else K (a.put oj.dst undef) w) : wpAnyD P md ops Q S m (fuel + 1) listed a w := by
  refine ⟨fun h0 => (by rw [hr] at h0; cases h0), fun k hk => ?_⟩
  rw [hr, List.mem_cons, List.mem_singleton] at hk
  rcases hk with rfl | rfl
  · exact wpOp_step hi fun K hK => h K fun a' w' h1 h2 => hK a' w' ⟨h1, h2⟩
  · exact wpOp_step hj fun K hK => h' K fun a' w' h1 h2 => hK a' w' ⟨h1, h2⟩

/-- One alone may come up. -/
theorem d_step (i : Nat) {oi : Oper} {fuel : Nat} {listed : Array Bool} {a : Act} {w : World} (hr : Region.ready md ops listed = [i]) (hi : ops[i]? = some oi)
    (h : ∀ K : Act → World → Prop, Shut (∀ a' w', ((listed.setIfInBounds i true).getD m false = false → S w') → wpAnyD P md ops Q S m fuel (listed.setIfInBounds i true) a' w' → K a' w') →
      if Region.wanted oi (yielded ops a.tmps) = true then Oper.wp P oi a w K Q else K (a.put oi.dst undef) w) : wpAnyD P md ops Q S m (fuel + 1) listed a w := by
  refine ⟨fun h0 => (by rw [hr] at h0; cases h0), fun j hj => ?_⟩
  rw [hr, List.mem_singleton] at hj
  subst hj
  exact wpOp_step hi fun K hK => h K fun a' w' h1 h2 => hK a' w' ⟨h1, h2⟩

/-- All have come up. -/
theorem d_done {listed : Array Bool} {a : Act} {w : World} (hr : Region.ready md ops listed = []) (h : Q .normal a w) : ∀ fuel, wpAnyD P md ops Q S m fuel listed a w
  | 0 => ⟨hr, h⟩
  | _ + 1 => ⟨fun _ => h, by rw [hr]; simp⟩

/-- The beginning. -/
theorem wp_region_d (m : Nat) (S : World → Prop) {id : Nat} {a : Act} {w : World} (hm : P.follows .mixedOrders = true)
    (h : wpAnyD P .any ops Q S m ops.size (Array.replicate ops.size false) a w.drew) : (Code.region id ops true).wp P Q a w :=
  wp_region_any hm (any_of_d _ _ _ _ h)

end
end Go.Proofs.YtpiheobpobclgaaGreatDoor
