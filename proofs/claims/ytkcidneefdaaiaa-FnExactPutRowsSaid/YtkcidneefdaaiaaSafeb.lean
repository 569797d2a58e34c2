/- Plain lemmas and contracts that all proofs of this seat lean on: bundle Safeb. -/
import Derived.Test.YtkcidneefdaaiaaRowd
import Derived.Test.YtkcidneefdaaiaaLogg
import Derived.Test.YtkcidneefdaaiaaCopyl
import Derived.Deep.RegionWith
import Derived.Deep.DeepCutAuto
import Derived.Test.YtkcidneefdaaiaaEqent
/- spec.SureLog, impl.SureLog. -/
namespace Go.Proofs.Ytkcidneefdaaiaa
open Go.RowKit

theorem pick_costEntry (q : Bool) (l : List EntryD) (h : costEntryS l ≤ 1048576) : costEntryS (pickL q l) ≤ 1048576 := by
  cases q
  · show costEntryS [] ≤ _
    simp [costEntryS, sumC]
  · exact h

/-- What a leader knows to be committed. -/
def sureL (l : List ReplicaD) (lead : Int) : List EntryD := match l[lead.toNat]? with
  | some r => r.Log.take r.Sure.toNat
  | none => []

theorem sumC_take_le {α : Type} (f : α → Nat) (l : List α) (k : Nat) : sumC f (l.take k) ≤ sumC f l := sumC_le f l k

theorem take_cost (l : List EntryD) (k : Nat) : costEntryS (l.take k) ≤ costEntryS l := by
  have := sumC_le costEntry l k
  unfold costEntryS
  rw [List.length_take]
  omega

theorem sureL_cost {l : List ReplicaD} (hl : costReplicaS l ≤ 1048576) (lead : Int) : costEntryS (sureL l lead) ≤ 1048576 := by
  unfold sureL
  cases h : l[lead.toNat]? with
  | none => show costEntryS [] ≤ _; simp [costEntryS, sumC]
  | some r =>
    obtain ⟨hi, hr⟩ := List.getElem?_eq_some_iff.1 h
    have h1 := rep_le hl hi
    rw [hr] at h1
    exact Nat.le_trans (take_cost _ _) h1

theorem own_made0 {α : Type} {c : Cod α} {w0 : World} {e : TypeId} {H base : Nat} (hH : w0.heap.size = H) (hb : base ≤ H) : Own c (w0.alloc (.cells #[] e)) base (.slice (some ⟨H, 0, none⟩) 0 0) (pickL false ([] : List α)) :=
  (part_start (c := c) (made0 (size := c.size) hH hb)).own rfl

end Go.Proofs.Ytkcidneefdaaiaa


/- IsSafe: plain, impl. -/
namespace Go.Proofs.Ytkcidneefdaaiaa
open Go.RowKit

/-- What a replica knows to be committed. -/
def sureOf (x : ReplicaD) : List EntryD := x.Log.take x.Sure.toNat
def okP (x y : ReplicaD) : Prop := sureOf x <+: sureOf y ∨ sureOf y <+: sureOf x
def ledP (l : List ReplicaD) (lead : Int) (x : ReplicaD) : Prop := ∀ (L : Nat) z, lead = (L : Int) → l[L]? = some z → sureOf x <+: z.Log

theorem safe_iff {l : List ReplicaD} {term lead : Int} : Safe ⟨l, term, lead⟩ ↔ ∀ x ∈ l, (∀ y ∈ l, okP x y) ∧ ledP l lead x := Iff.rfl

theorem beg_ok {x y : ReplicaD} {s t : Nat} (hs : x.Sure = (s : Int)) (ht : y.Sure = (t : Int)) (hx : s ≤ x.Log.length) (hy : t ≤ y.Log.length) : begB x.Log y.Log (min s t) = pB (okP x y) := by
  unfold begB okP sureOf
  rw [hs, ht, Int.toNat_natCast, Int.toNat_natCast]
  refine pB_congr ⟨fun ⟨_, _, h⟩ => ?_, fun h => ⟨by omega, by omega, ?_⟩⟩
  · rcases Nat.le_total s t with e | e
    · rw [Nat.min_eq_left e] at h
      exact Or.inl (by rw [h, show y.Log.take s = (y.Log.take t).take s from by rw [List.take_take, Nat.min_eq_left e]]; exact List.take_prefix _ _)
    · rw [Nat.min_eq_right e] at h
      exact Or.inr (by rw [← h, show x.Log.take t = (x.Log.take s).take t from by rw [List.take_take, Nat.min_eq_left e]]; exact List.take_prefix _ _)
  · have hc : ∀ {a b : List EntryD} {p q : Nat}, p ≤ a.length → q ≤ b.length → a.take p <+: b.take q → p ≤ q ∧ a.take p = b.take p := fun {a b p q} h1 h2 h3 => by
      have h4 := h3.length_le
      rw [List.length_take, List.length_take] at h4
      have hpq : p ≤ q := by omega
      refine ⟨hpq, ?_⟩
      rw [List.prefix_iff_eq_take.1 h3, List.length_take, List.take_take]
      congr 1
      omega
    rcases h with h | h
    · obtain ⟨h1, h2⟩ := hc hx hy h
      rw [Nat.min_eq_left h1, h2]
    · obtain ⟨h1, h2⟩ := hc hy hx h
      rw [Nat.min_eq_right h1, h2]

theorem beg_led {x z : ReplicaD} {s : Nat} (hs : x.Sure = (s : Int)) (hx : s ≤ x.Log.length) : begB z.Log x.Log s = pB (sureOf x <+: z.Log) := by
  unfold begB sureOf
  rw [hs, Int.toNat_natCast]
  refine pB_congr ⟨fun ⟨h1, _, h⟩ => by rw [← h]; exact List.take_prefix _ _, fun h => ?_⟩
  have h1 := h.length_le
  rw [List.length_take] at h1
  refine ⟨by omega, by omega, ?_⟩
  have h2 := List.prefix_iff_eq_take.1 h
  rw [List.length_take, Nat.min_eq_left hx] at h2
  exact h2.symm

theorem good_sure {l : List ReplicaD} {term lead : Int} (h : goodGB l term lead = true) {x : ReplicaD} (hx : x ∈ l) : ∃ s : Nat, x.Sure = (s : Int) ∧ s ≤ x.Log.length := by
  have h1 := ((goodG_iff (g := ⟨l, term, lead⟩)).1 h).2.2.1 x hx
  exact ⟨x.Sure.toNat, by omega, by omega⟩

theorem log_costs {l : List ReplicaD} (hl : costReplicaS l ≤ 1048576) {x : ReplicaD} (hx : x ∈ l) : costEntryS x.Log ≤ 1048576 := by
  obtain ⟨k, hk, rfl⟩ := List.getElem_of_mem hx
  exact rep_le hl hk

end Go.Proofs.Ytkcidneefdaaiaa


/- IsSafe: spec. -/
namespace Go.Proofs.Ytkcidneefdaaiaa
open Go.RowKit

end Go.Proofs.Ytkcidneefdaaiaa

