/- Plain lemmas and contracts that all proofs of this seat lean on: bundle Logg. -/
import Derived.Test.YtkcidneefdaaiaaRowd
import Derived.Test.YtkcidneefdaaiaaGoodr
/- impl.isLog. Printed by mklog.py. -/
namespace Go.Proofs.Ytkcidneefdaaiaa
open Go.RowKit

def EntAt (l : List EntryD) (term : Int) (j : Nat) : Prop := ∀ h : j < l.length, inB l[j].Term 1 term = true ∧ goodRB l[j].Rec = true ∧ ∀ m (_ : m + 1 = j), (l[m]'(by omega)).Term ≤ l[j].Term
def GoodLog (l : List EntryD) (term : Int) : Prop := l.length ≤ 60 ∧ ∀ j, j < l.length → EntAt l term j

theorem ent_le {l : List EntryD} (hl : costEntryS l ≤ 1048576) {k : Nat} (hk : k < l.length) : l[k].Rec.Reads.length ≤ 1048576 ∧ l[k].Rec.Writes.length ≤ 1048576 := by
  have h1 := sumC_get costEntry l k hk
  unfold costEntryS at hl
  have h2 : costStringS l[k].Rec.Reads ≤ costEntry l[k] ∧ costWriteS l[k].Rec.Writes ≤ costEntry l[k] := by unfold costEntry; omega
  unfold costStringS costWriteS at h2
  omega

end Go.Proofs.Ytkcidneefdaaiaa


/- spec.l9GoodRep. -/
namespace Go.Proofs.Ytkcidneefdaaiaa
open Go.RowKit

/-- The term before entry k: 1 at first. -/
def PrevT (l : List EntryD) (k : Nat) (t : Int) : Prop := (k = 0 ∧ t = 1) ∨ ∃ m, ∃ h : m < l.length, m + 1 = k ∧ t = l[m].Term

theorem prev_iff {l : List EntryD} {term t : Int} {k : Nat} (hp : PrevT l k t) (hall : ∀ j, j < k → EntAt l term j) (hk : k < l.length) :
    inB l[k].Term t term = true ↔ (inB l[k].Term 1 term = true ∧ ∀ m (_ : m + 1 = k), (l[m]'(by omega)).Term ≤ l[k].Term) := by
  rw [inB_iff, inB_iff]
  rcases hp with ⟨rfl, rfl⟩ | ⟨m, hm, rfl, rfl⟩
  · exact ⟨fun h => ⟨h, fun m hm => by omega⟩, fun h => h.1⟩
  · have h1 := (inB_iff.1 (hall m (by omega) hm).1).1
    constructor
    · intro h
      exact ⟨by omega, fun m' hm' => by obtain rfl : m' = m := by omega
                                        exact h.1⟩
    · intro h
      have := h.2 m rfl
      omega

end Go.Proofs.Ytkcidneefdaaiaa


/- spec.GoodGroup. -/
namespace Go.Proofs.Ytkcidneefdaaiaa
open Go.RowKit

noncomputable def repB (term : Int) (x : ReplicaD) : Bool := pB (GoodLog x.Log term) && inB x.Sure 0 (x.Log.length : Int)
def upB (l : List ReplicaD) (lead : Int) : Bool := decide (lead < 0) || ((l[lead.toNat]?).map fun r => r.Up).getD false
def manyB (n : Nat) : Bool := !(((n : Int) != 3) && ((n : Int) != 5))
noncomputable def goodGB (l : List ReplicaD) (term lead : Int) : Bool := (((manyB l.length && inB term 0 200) && inB lead (-1) ((l.length : Int) - 1)) && l.all (repB term)) && upB l lead

theorem rep_le {l : List ReplicaD} (hl : costReplicaS l ≤ 1048576) {k : Nat} (hk : k < l.length) : costEntryS l[k].Log ≤ 1048576 := by
  have h1 := sumC_get costReplica l k hk
  unfold costReplicaS at hl
  have h2 : costEntryS l[k].Log = costReplica l[k] := rfl
  omega

end Go.Proofs.Ytkcidneefdaaiaa


/- impl.GoodGroup: its closure, ContainsFunc. Printed by mkgg.py. -/
namespace Go.Proofs.Ytkcidneefdaaiaa
open Go.RowKit

noncomputable def badRep (term : Int) (x : ReplicaD) : Bool := !repB term x

end Go.Proofs.Ytkcidneefdaaiaa


/- impl.GoodGroup. -/
namespace Go.Proofs.Ytkcidneefdaaiaa
open Go.RowKit

theorem all_any (l : List ReplicaD) (term : Int) : l.all (repB term) = !l.any (badRep term) := by
  induction l with
  | nil => rfl
  | cons x l ih =>
    rw [List.all_cons, List.any_cons, ih]
    unfold badRep
    cases repB term x <;> rfl

end Go.Proofs.Ytkcidneefdaaiaa


/- Groups as plain data: what keeps them safe. Plain law; no program. -/
namespace Go.Proofs.Ytkcidneefdaaiaa
open Go.RowKit

/-- The term of the last entry. -/
def lastT (l : List EntryD) : Int := match l.getLast? with
  | some e => e.Term
  | none => 0
theorem lastT_nil : lastT [] = 0 := rfl
theorem lastT_snoc (l : List EntryD) (e : EntryD) : lastT (l ++ [e]) = e.Term := by unfold lastT; simp
theorem lastT_get {l : List EntryD} {n : Nat} (h : l.length = n + 1) : lastT l = (l[n]'(by omega)).Term := by
  have : l.getLast? = some (l[n]'(by omega)) := by rw [List.getLast?_eq_getElem?, List.getElem?_eq_getElem (by omega)]; congr 2; omega
  unfold lastT
  rw [this]

theorem good_mono {l : List EntryD} {t : Int} (h : GoodLog l t) : ∀ (j i : Nat) (hj : j < l.length) (hi : i ≤ j), (l[i]'(by omega)).Term ≤ l[j].Term
  | 0, i, hj, hi => by
    obtain rfl : i = 0 := by omega
    exact Int.le_refl _
  | j + 1, i, hj, hi => by
    by_cases e : i = j + 1
    · subst e; exact Int.le_refl _
    · exact Int.le_trans (good_mono h j i (by omega) (by omega)) ((h.2 (j + 1) hj hj).2.2 j rfl)

theorem good_last {l : List EntryD} {t : Int} (h : GoodLog l t) (ht : 0 ≤ t) : 0 ≤ lastT l ∧ lastT l ≤ t ∧ (l ≠ [] → 1 ≤ lastT l) := by
  rcases Nat.eq_zero_or_pos l.length with h0 | h0
  · obtain rfl := List.eq_nil_of_length_eq_zero h0
    exact ⟨Int.le_refl _, ht, fun h => absurd rfl h⟩
  · obtain ⟨n, hn⟩ : ∃ n, l.length = n + 1 := ⟨l.length - 1, by omega⟩
    rw [lastT_get hn]
    have := inB_iff.1 (h.2 n (by omega) (by omega)).1
    exact ⟨by omega, by omega, fun _ => by omega⟩

theorem last_prefix {a l : List EntryD} {t : Int} (h : GoodLog l t) (ht : 0 ≤ t) (k : a <+: l) : lastT a ≤ lastT l := by
  rcases Nat.eq_zero_or_pos a.length with h0 | h0
  · obtain rfl := List.eq_nil_of_length_eq_zero h0
    exact (good_last h ht).1
  · obtain ⟨n, hn⟩ : ∃ n, a.length = n + 1 := ⟨a.length - 1, by omega⟩
    have hl := k.length_le
    obtain ⟨m, hm⟩ : ∃ m, l.length = m + 1 := ⟨l.length - 1, by omega⟩
    rw [lastT_get hn, lastT_get hm]
    have e : (a[n]'(by omega)) = (l[n]'(by omega)) := by
      obtain ⟨s, rfl⟩ := k
      rw [List.getElem_append_left]
    rw [e]
    exact good_mono h m n (by omega) (by omega)

theorem good_prefix {a l : List EntryD} {t : Int} (h : GoodLog l t) (k : a <+: l) : GoodLog a t := by
  have hl := k.length_le
  obtain ⟨s, rfl⟩ := k
  refine ⟨by have := h.1; omega, fun j hj _ => ?_⟩
  have h1 := h.2 j (by omega) (by omega)
  rw [List.getElem_append_left hj] at h1
  refine ⟨h1.1, h1.2.1, fun m hm => ?_⟩
  have h2 := h1.2.2 m hm
  rw [List.getElem_append_left (by omega)] at h2
  exact h2

theorem good_up {l : List EntryD} {t u : Int} (h : GoodLog l t) (k : t ≤ u) : GoodLog l u :=
  ⟨h.1, fun j hj hj' => ⟨inB_iff.2 (by have := inB_iff.1 (h.2 j hj hj').1; omega), (h.2 j hj hj').2⟩⟩

theorem good_snoc {l : List EntryD} {t : Int} (h : GoodLog l t) (ht : 1 ≤ t) (hl : l.length < 60) (e : EntryD) (he : e.Term = t) (hr : goodRB e.Rec = true) : GoodLog (l ++ [e]) t := by
  refine ⟨by simp; omega, fun j hj hj' => ?_⟩
  rw [List.length_append, List.length_singleton] at hj
  by_cases e1 : j < l.length
  · rw [List.getElem_append_left e1]
    have h1 := h.2 j e1 e1
    refine ⟨h1.1, h1.2.1, fun m hm => ?_⟩
    rw [List.getElem_append_left (by omega)]
    exact h1.2.2 m hm
  · obtain rfl : j = l.length := by omega
    rw [List.getElem_append_right (Nat.le_refl _)]
    simp only [Nat.sub_self, List.getElem_cons_zero]
    refine ⟨inB_iff.2 (by omega), hr, fun m hm => ?_⟩
    rw [List.getElem_append_left (by omega), he]
    exact (inB_iff.1 (h.2 m (by omega) (by omega)).1).2

/-- Two that are more than half meet. -/
theorem majority {α : Type} {l : List α} (p q : α → Bool) (hp : l.length < 2 * l.countP p) (hq : l.length < 2 * l.countP q) : ∃ x ∈ l, p x = true ∧ q x = true := by
  have h : ∀ l : List α, l.countP p + l.countP q ≤ l.length + l.countP (fun x => p x && q x) := by
    intro l
    induction l with
    | nil => simp
    | cons a l ih => cases hp : p a <;> cases hq : q a <;> simp [hp, hq] <;> omega
  have h1 := h l
  obtain ⟨x, hx, hpq⟩ := List.countP_pos_iff.1 (show 0 < l.countP (fun x => p x && q x) by omega)
  exact ⟨x, hx, by simpa using hpq⟩

theorem prefix_total {α : Type} {a b l : List α} (h : a <+: l) (k : b <+: l) : a <+: b ∨ b <+: a := by
  rcases Nat.le_total a.length b.length with e | e
  · exact Or.inl (List.prefix_of_prefix_length_le h k e)
  · exact Or.inr (List.prefix_of_prefix_length_le k h e)

noncomputable def goodG (g : GroupD) : Bool := goodGB g.Reps g.Term g.Lead

theorem many_iff {n : Nat} : manyB n = true ↔ n = 3 ∨ n = 5 := by
  unfold manyB
  simp only [bne, Bool.not_and, Bool.not_not, Bool.or_eq_true, beq_iff_eq]
  omega

theorem goodG_iff {g : GroupD} : goodG g = true ↔ (g.Reps.length = 3 ∨ g.Reps.length = 5) ∧ (0 ≤ g.Term ∧ g.Term ≤ 200) ∧ (∀ x ∈ g.Reps, GoodLog x.Log g.Term ∧ 0 ≤ x.Sure ∧ x.Sure ≤ x.Log.length) ∧
    (g.Lead = -1 ∨ ∃ (L : Nat) (x : ReplicaD), g.Lead = L ∧ g.Reps[L]? = some x ∧ x.Up = true) := by
  unfold goodG goodGB
  simp only [Bool.and_eq_true, many_iff, inB_iff, List.all_eq_true, repB, pB_iff]
  constructor
  · rintro ⟨⟨⟨⟨h1, h2⟩, h3⟩, h4⟩, h5⟩
    refine ⟨h1, h2, h4, ?_⟩
    by_cases h : g.Lead < 0
    · left; omega
    · right
      refine ⟨g.Lead.toNat, g.Reps[g.Lead.toNat]'(by omega), by omega, List.getElem?_eq_getElem _, ?_⟩
      unfold upB at h5
      rw [List.getElem?_eq_getElem (by omega), decide_eq_false h] at h5
      simpa using h5
  · rintro ⟨h1, h2, h4, h5⟩
    rcases h5 with h5 | ⟨L, x, h5, h6, h7⟩
    · refine ⟨⟨⟨⟨h1, h2⟩, by omega⟩, h4⟩, ?_⟩
      unfold upB
      rw [decide_eq_true (by omega)]
      rfl
    · have hL := (List.getElem?_eq_some_iff.1 h6).1
      refine ⟨⟨⟨⟨h1, h2⟩, by omega⟩, h4⟩, ?_⟩
      unfold upB
      rw [h5, Int.toNat_natCast, h6]
      simp [h7]

/-- What a group keeps: C is what is committed. -/
structure Inv (g : GroupD) (C : List EntryD) : Prop where
  good : goodG g = true
  cmp : ∀ x ∈ g.Reps, ∀ y ∈ g.Reps, lastT x.Log = lastT y.Log → x.Log <+: y.Log ∨ y.Log <+: x.Log
  lead : ∀ (L : Nat) x, g.Lead = (L : Int) → g.Reps[L]? = some x → 1 ≤ g.Term ∧ (∀ y ∈ g.Reps, lastT y.Log = g.Term → y.Log <+: x.Log) ∧ C <+: x.Log
  most : g.Reps.length < 2 * g.Reps.countP (fun x => pB (C <+: x.Log))
  late : ∀ x ∈ g.Reps, lastT C < lastT x.Log → C <+: x.Log
  sure : ∀ x ∈ g.Reps, x.Log.take x.Sure.toNat <+: C

theorem mem_set {α : Type} {l : List α} {i : Nat} {a x : α} (h : x ∈ l.set i a) : x ∈ l ∨ x = a := by
  rcases List.mem_or_eq_of_mem_set h with h | h
  · exact Or.inl h
  · exact Or.inr h

/-- A replica turned: its log and what is sure are as they were. -/
theorem countP_same {l : List ReplicaD} {i : Nat} {x y : ReplicaD} (p : List EntryD → Bool) (h : l[i]? = some x) (e : y.Log = x.Log) : (l.set i y).countP (fun z => p z.Log) = l.countP (fun z => p z.Log) := by
  have hi := (List.getElem?_eq_some_iff.1 h).1
  rw [List.countP_set hi]
  obtain ⟨_, hx⟩ := List.getElem?_eq_some_iff.1 h
  rw [hx, e]
  cases hp : p x.Log
  · simp
  · have : 0 < l.countP (fun z => p z.Log) := List.countP_pos_iff.2 ⟨x, List.mem_of_getElem? h, hp⟩
    simp
    omega

/-- A replica goes up or down; a leader may be lost. -/
theorem Inv.turn {g : GroupD} {C : List EntryD} (h : Inv g C) {r : Nat} {x : ReplicaD} (hx : g.Reps[r]? = some x) (up : Bool) (d : Int) (hd : d = -1 ∨ (d = g.Lead ∧ (d = (r : Int) → up = true))) :
    Inv ⟨g.Reps.set r { x with Up := up }, g.Term, d⟩ C := by
  have hxm := List.mem_of_getElem? hx
  have hr := (List.getElem?_eq_some_iff.1 hx).1
  have hlog : ∀ y ∈ g.Reps.set r { x with Up := up }, ∃ z ∈ g.Reps, z.Log = y.Log ∧ z.Sure = y.Sure := fun y hy => by
    rcases mem_set hy with hy | rfl
    · exact ⟨y, hy, rfl, rfl⟩
    · exact ⟨x, hxm, rfl, rfl⟩
  obtain ⟨g1, g2, g3, g4⟩ := goodG_iff.1 h.good
  refine ⟨goodG_iff.2 ⟨by simpa using g1, g2, fun y hy => ?_, ?_⟩, fun y hy z hz => ?_, fun L y hL hy => ?_, ?_, fun y hy => ?_, fun y hy => ?_⟩
  · obtain ⟨z, hz, e1, e2⟩ := hlog y hy
    rw [← e1, ← e2]
    exact g3 z hz
  · rcases hd with hd | ⟨hd, hup⟩
    · exact Or.inl hd
    · rcases g4 with g4 | ⟨L, y, g4, g5, g6⟩
      · exact Or.inl (hd.trans g4)
      · right
        by_cases e : L = r
        · subst e
          exact ⟨L, { x with Up := up }, hd.trans g4, by simp [hr], hup (hd.trans g4)⟩
        · exact ⟨L, y, hd.trans g4, by simp only [List.getElem?_set_ne (Ne.symm e)]; exact g5, g6⟩
  · obtain ⟨y', hy', e1, _⟩ := hlog y hy
    obtain ⟨z', hz', e2, _⟩ := hlog z hz
    rw [← e1, ← e2]
    exact h.cmp y' hy' z' hz'
  · dsimp only at hL hy ⊢
    have hgl : g.Lead = (L : Int) := by
      rcases hd with hd | ⟨hd, _⟩ <;> omega
    have hy' : ∃ y', g.Reps[L]? = some y' ∧ y'.Log = y.Log := by
      by_cases e : L = r
      · subst e
        rw [List.getElem?_set_self hr] at hy
        injection hy with hy
        exact ⟨x, hx, by rw [← hy]⟩
      · rw [List.getElem?_set_ne (Ne.symm e)] at hy
        exact ⟨y, hy, rfl⟩
    obtain ⟨y', hy1, hy2⟩ := hy'
    obtain ⟨k1, k2, k3⟩ := h.lead L y' hgl hy1
    rw [← hy2]
    refine ⟨k1, fun z hz => ?_, k3⟩
    obtain ⟨z', hz', e2, _⟩ := hlog z hz
    rw [← e2]
    exact k2 z' hz'
  · have := h.most
    dsimp only
    rw [List.length_set]
    rw [countP_same (y := { x with Up := up }) (fun l => pB (C <+: l)) hx rfl]
    exact this
  · obtain ⟨z, hz, e1, _⟩ := hlog y hy
    rw [← e1]
    exact h.late z hz
  · obtain ⟨z, hz, e1, e2⟩ := hlog y hy
    rw [← e1, ← e2]
    exact h.sure z hz

/-- Whether a log is later than another one. -/
def newerB (a b : List EntryD) : Bool := decide (lastT b < lastT a) || (decide (lastT a = lastT b) && decide (b.length < a.length))

/-- A leader is elected. -/
theorem Inv.elect {g : GroupD} {C : List EntryD} (h : Inv g C) {r : Nat} {x : ReplicaD} (hx : g.Reps[r]? = some x) (hup : x.Up = true) (ht : g.Term ≠ 200)
    (hv : g.Reps.length < 2 * g.Reps.countP (fun y => y.Up && !newerB y.Log x.Log)) : Inv ⟨g.Reps, g.Term + 1, (r : Int)⟩ C := by
  have hxm := List.mem_of_getElem? hx
  obtain ⟨g1, g2, g3, g4⟩ := goodG_iff.1 h.good
  refine ⟨goodG_iff.2 ⟨g1, ⟨by show 0 ≤ g.Term + 1; omega, by show g.Term + 1 ≤ 200; omega⟩, fun y hy => ⟨good_up (g3 y hy).1 (by show g.Term ≤ g.Term + 1; omega), (g3 y hy).2⟩, Or.inr ⟨r, x, rfl, hx, hup⟩⟩, h.cmp, fun L y hL hy => ?_, h.most, h.late, h.sure⟩
  dsimp only at hL hy ⊢
  obtain rfl : L = r := by omega
  rw [hx] at hy
  injection hy with hy
  subst hy
  refine ⟨by omega, fun y hy he => ?_, ?_⟩
  · have := (good_last (g3 y hy).1 g2.1).2.1
    omega
  · obtain ⟨m, hm, hc, hn⟩ := majority _ _ h.most hv
    have hc := pB_iff.1 hc
    rw [Bool.and_eq_true, Bool.not_eq_true'] at hn
    have hn := hn.2
    unfold newerB at hn
    rw [Bool.or_eq_false_iff, Bool.and_eq_false_iff, decide_eq_false_iff_not, decide_eq_false_iff_not, decide_eq_false_iff_not] at hn
    have h1 := last_prefix (g3 m hm).1 g2.1 hc
    by_cases e : lastT C < lastT x.Log
    · exact h.late x hxm e
    · have e2 : lastT m.Log = lastT x.Log := by omega
      rcases h.cmp m hm x hxm e2 with k | k
      · exact hc.trans k
      · have : m.Log.length ≤ x.Log.length := by
          rcases hn.2 with hn2 | hn2 <;> omega
        have := k.eq_of_length_le this
        rw [this]
        exact hc

/-- The leader gets an entry. -/
theorem Inv.put {g : GroupD} {C : List EntryD} (h : Inv g C) {L : Nat} {x : ReplicaD} (hL : g.Lead = (L : Int)) (hx : g.Reps[L]? = some x) (hl : x.Log.length < 60) (e : EntryD) (he : e.Term = g.Term) (hr : goodRB e.Rec = true) :
    Inv ⟨g.Reps.set L { x with Log := x.Log ++ [e] }, g.Term, g.Lead⟩ C := by
  have hxm := List.mem_of_getElem? hx
  have hLl := (List.getElem?_eq_some_iff.1 hx).1
  obtain ⟨g1, g2, g3, g4⟩ := goodG_iff.1 h.good
  obtain ⟨k1, k2, k3⟩ := h.lead L x hL hx
  have hup : x.Up = true := by
    rcases g4 with g4 | ⟨L', x', g4, g5, g6⟩
    · omega
    · obtain rfl : L' = L := by omega
      rw [hx] at g5
      injection g5 with g5
      rw [g5]; exact g6
  have hlast : lastT (x.Log ++ [e]) = g.Term := by rw [lastT_snoc, he]
  have hCx : C <+: x.Log ++ [e] := k3.trans (List.prefix_append _ _)
  refine ⟨goodG_iff.2 ⟨by simpa using g1, g2, fun y hy => ?_, Or.inr ⟨L, _, hL, List.getElem?_set_self hLl, hup⟩⟩, fun y hy z hz => ?_, fun L' y hL' hy => ?_, ?_, fun y hy => ?_, fun y hy => ?_⟩
  · rcases mem_set hy with hy | rfl
    · exact g3 y hy
    · have := g3 x hxm
      exact ⟨good_snoc this.1 k1 hl e he hr, this.2.1, by simp; omega⟩
  · have key : ∀ y ∈ g.Reps, lastT y.Log = g.Term → y.Log <+: x.Log ++ [e] := fun y hy hy2 => (k2 y hy hy2).trans (List.prefix_append _ _)
    rcases mem_set hy with hy | rfl <;> rcases mem_set hz with hz | rfl
    · exact h.cmp y hy z hz
    · dsimp only
      rw [hlast]
      exact fun e => Or.inl (key y hy e)
    · dsimp only
      rw [hlast]
      exact fun e => Or.inr (key z hz e.symm)
    · exact fun _ => Or.inl (List.prefix_refl _)
  · dsimp only at hL' hy ⊢
    obtain rfl : L' = L := by omega
    rw [List.getElem?_set_self hLl] at hy
    injection hy with hy
    subst hy
    refine ⟨k1, fun y hy => ?_, hCx⟩
    rcases mem_set hy with hy | rfl
    · exact fun e1 => (k2 y hy e1).trans (List.prefix_append _ _)
    · exact fun _ => List.prefix_refl _
  · have := h.most
    dsimp only
    rw [List.length_set, List.countP_set hLl]
    obtain ⟨_, hx'⟩ := List.getElem?_eq_some_iff.1 hx
    rw [hx', pB_true k3, pB_true hCx]
    have : 0 < g.Reps.countP (fun x => pB (C <+: x.Log)) := List.countP_pos_iff.2 ⟨x, hxm, pB_true k3⟩
    simp
    omega
  · rcases mem_set hy with hy | rfl
    · exact h.late y hy
    · exact fun _ => hCx
  · rcases mem_set hy with hy | rfl
    · exact h.sure y hy
    · have := h.sure x hxm
      dsimp only
      rw [List.take_append_of_le_length (by have := (g3 x hxm).2; omega)]
      exact this

/-- A replica gets the leader's log. -/
theorem Inv.copy {g : GroupD} {C : List EntryD} (h : Inv g C) {L r : Nat} {x y : ReplicaD} (hL : g.Lead = (L : Int)) (hx : g.Reps[L]? = some x) (hy : g.Reps[r]? = some y) (hne : r ≠ L) :
    Inv ⟨g.Reps.set r ⟨true, x.Log, min (max x.Sure y.Sure) x.Log.length⟩, g.Term, g.Lead⟩ C := by
  have hxm := List.mem_of_getElem? hx
  have hym := List.mem_of_getElem? hy
  have hrl := (List.getElem?_eq_some_iff.1 hy).1
  obtain ⟨g1, g2, g3, g4⟩ := goodG_iff.1 h.good
  obtain ⟨k1, k2, k3⟩ := h.lead L x hL hx
  have hlog : ∀ z ∈ g.Reps.set r ⟨true, x.Log, min (max x.Sure y.Sure) x.Log.length⟩, ∃ z' ∈ g.Reps, z'.Log = z.Log := fun z hz => by
    rcases mem_set hz with hz | rfl
    · exact ⟨z, hz, rfl⟩
    · exact ⟨x, hxm, rfl⟩
  refine ⟨goodG_iff.2 ⟨by simpa using g1, g2, fun z hz => ?_, ?_⟩, fun y hy z hz => ?_, fun L' z hL' hz => ?_, ?_, fun y hy => ?_, fun z hz => ?_⟩
  · rcases mem_set hz with hz | rfl
    · exact g3 z hz
    · have h1 := g3 x hxm
      have h2 := g3 y hym
      exact ⟨h1.1, by dsimp only; omega, by dsimp only; omega⟩
  · rcases g4 with g4 | ⟨L', x', g4, g5, g6⟩
    · exact Or.inl g4
    · exact Or.inr ⟨L', x', g4, by rw [List.getElem?_set_ne (by omega)]; exact g5, g6⟩
  · obtain ⟨y', hy', e1⟩ := hlog y hy
    obtain ⟨z', hz', e2⟩ := hlog z hz
    rw [← e1, ← e2]
    exact h.cmp y' hy' z' hz'
  · dsimp only at hL' hz ⊢
    obtain rfl : L' = L := by omega
    rw [List.getElem?_set_ne hne, hx] at hz
    injection hz with hz
    subst hz
    refine ⟨k1, fun u hu => ?_, k3⟩
    obtain ⟨u', hu', e2⟩ := hlog u hu
    rw [← e2]
    exact k2 u' hu'
  · have := h.most
    dsimp only
    rw [List.length_set, List.countP_set hrl]
    obtain ⟨_, hy'⟩ := List.getElem?_eq_some_iff.1 hy
    rw [hy', pB_true k3]
    have : pB (C <+: y.Log) = true → 0 < g.Reps.countP (fun x => pB (C <+: x.Log)) := fun h => List.countP_pos_iff.2 ⟨y, hym, h⟩
    cases hq : pB (C <+: y.Log)
    · simp; omega
    · have := this hq
      simp; omega
  · obtain ⟨z, hz, e1⟩ := hlog y hy
    rw [← e1]
    exact h.late z hz
  · rcases mem_set hz with hz | rfl
    · exact h.sure z hz
    · dsimp only
      have h1 := h.sure x hxm
      have h2 := h.sure y hym
      have l1 := h1.length_le
      have l2 := h2.length_le
      rw [List.length_take] at l1 l2
      have s1 := g3 x hxm
      have s2 := g3 y hym
      refine List.prefix_of_prefix_length_le (List.take_prefix _ _) k3 ?_
      rw [List.length_take]
      omega

/-- More is committed. -/
theorem Inv.commit {g : GroupD} {C : List EntryD} (h : Inv g C) {L n : Nat} {x : ReplicaD} (hL : g.Lead = (L : Int)) (hx : g.Reps[L]? = some x) (hn : n < x.Log.length) (ht : x.Log[n].Term = g.Term)
    (hm : g.Reps.length < 2 * g.Reps.countP (fun y => pB (x.Log.take (n + 1) <+: y.Log))) :
    ∃ C', C <+: C' ∧ Inv ⟨g.Reps.set L { x with Sure := ((n + 1 : Nat) : Int) }, g.Term, g.Lead⟩ C' := by
  have hxm := List.mem_of_getElem? hx
  have hLl := (List.getElem?_eq_some_iff.1 hx).1
  obtain ⟨g1, g2, g3, g4⟩ := goodG_iff.1 h.good
  obtain ⟨k1, k2, k3⟩ := h.lead L x hL hx
  have hlast : lastT (x.Log.take (n + 1)) = g.Term := by
    rw [lastT_get (n := n) (by rw [List.length_take]; omega), List.getElem_take]
    exact ht
  -- what is committed now
  have hC : ∃ C', C <+: C' ∧ x.Log.take (n + 1) <+: C' ∧ C' <+: x.Log ∧ g.Reps.length < 2 * g.Reps.countP (fun y => pB (C' <+: y.Log)) ∧ (∀ y ∈ g.Reps, lastT C' < lastT y.Log → C' <+: y.Log) := by
    rcases prefix_total k3 (List.take_prefix (n + 1) x.Log) with k | k
    · refine ⟨x.Log.take (n + 1), k, List.prefix_refl _, List.take_prefix _ _, hm, fun y hy hlt => ?_⟩
      have := (good_last (g3 y hy).1 g2.1).2.1
      omega
    · exact ⟨C, List.prefix_refl _, k, k3, h.most, h.late⟩
  obtain ⟨C', c1, c2, c3, c4, c5⟩ := hC
  refine ⟨C', c1, ?_⟩
  have hlog : ∀ y ∈ g.Reps.set L { x with Sure := ((n + 1 : Nat) : Int) }, ∃ z ∈ g.Reps, z.Log = y.Log := fun y hy => by
    rcases mem_set hy with hy | rfl
    · exact ⟨y, hy, rfl⟩
    · exact ⟨x, hxm, rfl⟩
  refine ⟨goodG_iff.2 ⟨by simpa using g1, g2, fun y hy => ?_, ?_⟩, fun y hy z hz => ?_, fun L' y hL' hy => ?_, ?_, fun y hy => ?_, fun y hy => ?_⟩
  · rcases mem_set hy with hy | rfl
    · exact g3 y hy
    · have := g3 x hxm
      exact ⟨this.1, by dsimp only; omega, by dsimp only; omega⟩
  · rcases g4 with g4 | ⟨L', x', g4, g5, g6⟩
    · exact Or.inl g4
    · obtain rfl : L' = L := by omega
      rw [hx] at g5
      injection g5 with g5
      subst g5
      exact Or.inr ⟨L', _, g4, List.getElem?_set_self hLl, g6⟩
  · obtain ⟨y', hy', e1⟩ := hlog y hy
    obtain ⟨z', hz', e2⟩ := hlog z hz
    rw [← e1, ← e2]
    exact h.cmp y' hy' z' hz'
  · dsimp only at hL' hy ⊢
    obtain rfl : L' = L := by omega
    rw [List.getElem?_set_self hLl] at hy
    injection hy with hy
    subst hy
    refine ⟨k1, fun z hz => ?_, c3⟩
    obtain ⟨z', hz', e2⟩ := hlog z hz
    rw [← e2]
    exact k2 z' hz'
  · dsimp only
    rw [List.length_set, countP_same (y := { x with Sure := ((n + 1 : Nat) : Int) }) (fun l => pB (C' <+: l)) hx rfl]
    exact c4
  · obtain ⟨z, hz, e1⟩ := hlog y hy
    rw [← e1]
    exact c5 z hz
  · rcases mem_set hy with hy | rfl
    · exact (h.sure y hy).trans c1
    · dsimp only
      rw [Int.toNat_natCast]
      exact c2

/-- A group that is safe. -/
def Safe (g : GroupD) : Prop := ∀ a ∈ g.Reps, (∀ b ∈ g.Reps, a.Log.take a.Sure.toNat <+: b.Log.take b.Sure.toNat ∨ b.Log.take b.Sure.toNat <+: a.Log.take a.Sure.toNat) ∧
  ∀ (L : Nat) x, g.Lead = (L : Int) → g.Reps[L]? = some x → a.Log.take a.Sure.toNat <+: x.Log

theorem Inv.safe {g : GroupD} {C : List EntryD} (h : Inv g C) : Safe g := fun a ha =>
  ⟨fun b hb => prefix_total (h.sure a ha) (h.sure b hb), fun L x hL hx => (h.sure a ha).trans (h.lead L x hL hx).2.2⟩

theorem Inv.start {n : Nat} (hn : n = 3 ∨ n = 5) : Inv ⟨List.replicate n ⟨true, [], 0⟩, 0, -1⟩ [] := by
  have hm : ∀ x ∈ List.replicate n (⟨true, [], 0⟩ : ReplicaD), x = ⟨true, [], 0⟩ := fun x hx => List.eq_of_mem_replicate hx
  refine ⟨goodG_iff.2 ⟨by simpa using hn, ⟨Int.le_refl _, by show (0 : Int) ≤ 200; omega⟩, fun x hx => ?_, Or.inl rfl⟩, fun x hx y hy _ => ?_, fun L x hL => ?_, ?_, fun x hx _ => List.nil_prefix, fun x hx => ?_⟩
  · rw [hm x hx]
    exact ⟨⟨by simp, fun j hj => by simp at hj⟩, Int.le_refl _, by simp⟩
  · rw [hm x hx]
    exact Or.inl List.nil_prefix
  · dsimp only at hL; omega
  · rw [List.countP_eq_length.2 (fun x _ => pB_true List.nil_prefix)]
    simp
    omega
  · rw [hm x hx]
    exact List.nil_prefix

end Go.Proofs.Ytkcidneefdaaiaa

