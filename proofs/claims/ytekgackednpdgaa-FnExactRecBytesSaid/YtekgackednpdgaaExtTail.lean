/- A region that draws its order: a head whose operations are quiet in a class of worlds (they read, or call what makes memory alone and gives plain values), in whatever order; then a tail in the one order that is left. -/
import Derived.Test.YtekgackednpdgaaExt
import Derived.StillTail
namespace Go.Proofs.Ytekgackednpdgaa
open Go.RowKit

section
variable {P : Program} {md : Region.Mode} {ops : Array Oper} {C : World → Prop}

/-- f operations of the head (numbers below n) in whatever order, then L. -/
def AnyHead (P : Program) (md : Region.Mode) (ops : Array Oper) (C : World → Prop) (n : Nat) (L : Array Bool → Act → Prop) : Nat → Array Bool → Act → Prop
  | 0, done, a => L done a
  | f + 1, done, a => Region.ready md ops done ≠ [] ∧ ∀ i ∈ Region.ready md ops done, i < n ∧ qOp P ops C i (AnyHead P md ops C n L f (done.setIfInBounds i true)) a

theorem any_of_head {n g : Nat} {L : Array Bool → Act → Prop} {Q : Exit → Act → World → Prop} (hL : ∀ done a w, C w → L done a → wpAny P md ops Q g done a w) :
    ∀ (f : Nat) (done : Array Bool) (a : Act) (w : World), C w → AnyHead P md ops C n L f done a → wpAny P md ops Q (f + g) done a w := by
  intro f
  induction f with
  | zero => intro done a w hw h; rw [Nat.zero_add]; exact hL _ _ _ hw h
  | succ f ih =>
    intro done a w hw h
    rw [show f + 1 + g = f + g + 1 by omega]
    exact ⟨fun h0 => absurd h0 h.1, fun i hi => wpOp_of_qOp hw (fun a' w' hw' h' => ih _ a' w' hw' h') (h.2 i hi).2⟩

/-- Of the head's operations one that may come up now may be taken first. -/
theorem head_first {n i : Nat} {oi : Oper} {v : Value} {L : Array Bool → Act → Prop} (hi : ops[i]? = some oi) (hsel : ∀ (j : Nat) (o : Oper) cs b, ops[j]? = some o → o.op ≠ .select cs b)
    (hs : Region.sinkB md ops n = true) (hc : Region.chainB md ops n = true) (hn : n < ops.size) (hin : i < n) (hdone : ∀ done a, L done a → ∀ j ∈ Region.ready md ops done, n ≤ j) :
    ∀ (f : Nat) (done : Array Bool) (a : Act), HeadInv md ops n done →
      (∀ j oj, ops[j]? = some oj → j ≠ i → done.getD j true = false → (∀ e ∈ oj.after, Region.binds md e = true → e.on ≠ i) → oi.apart ops oj = true) →
      i ∈ Region.ready md ops done → YieldsIn P ops C oi v a → AnyHead P md ops C n L f (done.setIfInBounds i true) (a.put oi.dst v) → AnyHead P md ops C n L (f + 1) done a := by
  intro f
  induction f with
  | zero =>
    intro done a inv _ hr hy H
    refine ⟨fun h => by rw [h] at hr; exact absurd hr List.not_mem_nil, fun j hj => ?_⟩
    have hjn : j < n := Nat.lt_of_not_le fun h => tail_waits hs hc hn inv _ i rfl hin (mem_ready.1 hr).1 j h hj
    refine ⟨hjn, ?_⟩
    by_cases e : j = i
    · rw [e]; exact hy.qOp hi H
    · exact absurd (hdone _ _ H j (ready_mono hj e)) (by omega)
  | succ f ih =>
    intro done a inv hfree hr hy H
    have hun := (mem_ready.1 hr).1
    refine ⟨fun h => by rw [h] at hr; exact absurd hr List.not_mem_nil, fun j hj => ?_⟩
    have hjn : j < n := Nat.lt_of_not_le fun h => tail_waits hs hc hn inv _ i rfl hin hun j h hj
    refine ⟨hjn, ?_⟩
    by_cases e : j = i
    · rw [e]; exact hy.qOp hi H
    · obtain ⟨hjun, oj, hoj, hall⟩ := mem_ready.1 hj
      have hnot : ∀ ed ∈ oj.after, Region.binds md ed = true → ed.on ≠ i := fun ed he hb heq => by
        have h1 := hall ed he hb
        rw [heq, getD_both hun] at h1
        exact Bool.noConfusion h1
      refine qOp_mono (fun a' h3 => ih (done.setIfInBounds j true) a' (inv.set hj hjn) (fun k ok hk hki hk2 hno => hfree k ok hk hki ?_ hno) (ready_mono hr (Ne.symm e)) h3.1 ?_)
        (qOp_put hoj (hfree j oj hoj e hjun hnot) (fun cs b => hsel i oi cs b hi) (fun cs b => hsel j oj cs b hoj) hy (H.2 j (ready_mono hj e)).2)
      · by_cases hjk : j = k
        · rw [← hjk]; exact hjun
        · rwa [getD_set_ne true hjk] at hk2
      · rw [Array.setIfInBounds_comm _ _ e]; exact h3.2

theorem head_lex {n g : Nat} {Lq : Act → Prop} (hsel : Region.noSelect ops = true) (hs : Region.sinkB md ops n = true) (hc : Region.chainB md ops n = true) (hn : n < ops.size) :
    ∀ (l : List Oper) (k : Nat) (done : Array Bool) (a : Act), (∀ j, j < l.length → l[j]? = ops[k + j]?) → k + l.length = n → HeadInv md ops n done →
      Region.lexHead md ops g l.length k done = true → wpQuiet P ops C Lq l a → AnyHead P md ops C n (fun done' a' => Region.seqB md ops g n done' = true ∧ Lq a') l.length done a := by
  intro l
  induction l with
  | nil =>
    intro k done a _ hk _ hB h
    have e : k = n := by simpa using hk
    subst e
    exact ⟨by simpa [Region.lexHead] using hB, h⟩
  | cons o l ih =>
    intro k done a hl hk inv hB h
    have h0 : ops[k]? = some o := by simpa using (hl 0 (by simp)).symm
    simp only [List.length_cons] at hk
    simp only [List.length_cons, Region.lexHead, Bool.and_eq_true] at hB
    have hr : k ∈ Region.ready md ops done := by simpa using hB.1.1
    have hq : qOp P ops C k (wpQuiet P ops C Lq l) a := by unfold qOp; simp only [h0]; exact h
    obtain ⟨v, hy, hK⟩ := yieldsIn_of_qOp h0 hq
    refine head_first h0 (Region.noSelect_spec hsel) hs hc hn (by omega) (fun done' a' hL => seqB_ready hL.1) l.length done a inv (Region.free_spec h0 hB.1.2) hr hy ?_
    exact ih (k + 1) _ _ (fun j hj => by have := hl (j + 1) (by simp; omega); simpa [Nat.add_assoc, Nat.add_comm 1 j] using this) (by omega) (inv.set hr (by omega)) hB.2 hK

/-- The head in the class of w's extensions from block B on, then the tail, in any world of the class. -/
theorem wp_region_ext_tail {id : Nat} {Q : Exit → Act → World → Prop} {a : Act} {w : World} {l : List Oper} (n : Nat) (hm : P.follows .mixedOrders = true) (hB : Region.lexTailB .any l.toArray n = true) (B : Nat)
    (h : wpQuiet P l.toArray (fun w' => ∃ u, w' = ext B w u) (fun a' => ∀ w', Below B w w' → wpList P l.toArray Q (l.drop n) a' w') (l.take n) a) : (Code.region id l.toArray true).wp P Q a w := by
  simp only [Region.lexTailB, Bool.and_eq_true, decide_eq_true_eq] at hB
  obtain ⟨⟨⟨⟨hsel, hn⟩, hs⟩, hc⟩, hlex⟩ := hB
  have hnl : n < l.length := by simpa using hn
  have htl : (l.take n).length = n := by simp; omega
  have hdl : (l.drop n).length = l.toArray.size - n := by simp
  have inv0 : HeadInv .any l.toArray n (Array.replicate l.toArray.size false) :=
    ⟨by simp, fun j oj _ hl => by rw [getD_replicate_false] at hl; exact Bool.noConfusion hl, fun t _ ht => getD_in (by simpa using ht) (getD_replicate_false _ _)⟩
  have H := head_lex (C := fun w' => ∃ u, w' = ext B w u) (md := .any) (g := l.toArray.size - n) hsel hs hc hn (l.take n) 0 _ a
    (fun j hj => by rw [htl] at hj; simp [hj]) (by simpa using htl) inv0 (by rw [htl]; exact hlex) h
  refine wp_region_any hm ?_
  have key := any_of_head (Q := Q) (g := l.toArray.size - n) (fun done a' w' hw' hL => by
    obtain ⟨u, rfl⟩ := hw'
    have := wpAny_of_seq (md := .any) (Q' := Q) (l.drop n) n done a' (ext B w u) (fun j => by simp [List.getElem?_drop]) (by rw [hdl]; exact hL.1) (hL.2 _ (ext_below B w u))
    rwa [hdl] at this) _ _ _ { w with drawn := w.drawn + 1 } (ext_of_below (Below.refl B w).drew) H
  rw [htl, show n + (l.toArray.size - n) = l.toArray.size by omega] at key
  exact key
end
end Go.Proofs.Ytekgackednpdgaa
