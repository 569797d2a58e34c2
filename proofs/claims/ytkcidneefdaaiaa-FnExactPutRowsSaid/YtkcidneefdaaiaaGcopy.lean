/- Plain lemmas and contracts that all proofs of this seat lean on: bundle Gcopy. -/
import Derived.Test.YtkcidneefdaaiaaRowd
import Derived.Test.YtkcidneefdaaiaaLogg
import Derived.Test.YtkcidneefdaaiaaCopyl
import Derived.Test.YtkcidneefdaaiaaTos
import Derived.Test.YtkcidneefdaaiaaHeld
/- impl.copyGroup. -/
namespace Go.Proofs.Ytkcidneefdaaiaa
open Go.RowKit

/-- A replica whose log has room, out of its parts. -/
theorem mk_replicaR {w : World} {up : Bool} {L : List EntryD} {sure : Int} {u : Value} {f : List Nat} (r : Cod.rdR Cod.entry w u L f) (z : I64 sure) : Cod.replicaR.rd w (lst [.bool up, u, .int .i64 sure]) ⟨up, L, sure⟩ f :=
  ⟨[], f, rfl, ⟨rfl, trivial, rfl⟩, f, [], (List.append_nil f).symm, ⟨u, rfl, r⟩, ⟨rfl, z, rfl⟩⟩

end Go.Proofs.Ytkcidneefdaaiaa


/- spec.l9Own. -/
namespace Go.Proofs.Ytkcidneefdaaiaa
open Go.RowKit

end Go.Proofs.Ytkcidneefdaaiaa


/- A replica of a group of the call's own is turned; spec.l9Up. -/
namespace Go.Proofs.Ytkcidneefdaaiaa
open Go.RowKit

theorem own_setUp {w : World} {base g o n cap : Nat} {l : List ReplicaD} (h : Own Cod.replicaR w base (.slice (some ⟨g, o, none⟩) n cap) l) (k : Nat) (hk : k < l.length) (b : Bool) :
    Own Cod.replicaR (w.setCell ⟨g, o + k * 3, none⟩ (.bool b)) base (.slice (some ⟨g, o, none⟩) n cap) (l.set k { l[k] with Up := b }) := by
  obtain ⟨fp, ⟨a, cap', e, h1, h2, h3, h4⟩, m⟩ := h
  injection e with e1 e2 e3
  subst e1 e2 e3
  rcases h4 with ⟨rfl, _⟩ | ⟨b', off, fs, e, rfl, hb, he⟩
  · simp at hk
  injection e with e
  injection e with e1 e2
  subst e1 e2
  have hg : ∀ d ∈ fs.flatten, d ≠ g := fun d hd e => (List.nodup_cons.1 m.nodup).1 (e ▸ hd)
  have hh : ∀ d ∈ fs.flatten, (w.setCell ⟨g, o + k * 3, none⟩ (.bool b)).heap[d]? = w.heap[d]? := fun d hd => heap_setCell_other w ⟨g, o + k * 3, none⟩ d (.bool b) (hg d hd)
  refine ⟨g :: fs.flatten, ⟨_, cap, by rw [List.length_set], by rw [List.length_set]; exact h1, h2, h3, Or.inr ⟨g, o, fs, rfl, rfl, by simpa [World.setCell] using hb, elems_set he k hk _ (fun f hf => ?_) (fun i hi => ?_) (fun j _ f hf d hd => ?_)⟩⟩,
    ⟨m.nodup, m.low, fun d hd i => by rw [World.frozen?_setCell]; exact m.free d hd i⟩⟩
  · obtain ⟨f', hf', hr⟩ := Cod.elems_at _ he k hk
    rw [hf] at hf'
    injection hf' with hf'
    subst hf'
    obtain ⟨f1, f2, e, ⟨q0, _, e1⟩, q2⟩ := hr
    subst e1
    rw [List.nil_append] at e
    subst e
    have hin : ∀ d ∈ f, d ∈ fs.flatten := fun d hd => List.mem_flatten.2 ⟨f, List.mem_of_getElem? hf, hd⟩
    have q0' : w.cell? ⟨g, o + k * 3 + 0, none⟩ = some (.bool l[k].Up) := q0
    rw [Nat.add_zero] at q0'
    refine ⟨[], f, rfl, ⟨?_, trivial, rfl⟩, (Cod.pair (Cod.sliceR Cod.entry) Cod.int).ext (fun j _ => ?_) ((Cod.pair (Cod.sliceR Cod.entry) Cod.int).frame (fun d hd => hh d (hin d hd)) q2)⟩
    · show (w.setCell ⟨g, o + k * 3, none⟩ (.bool b)).cell? ⟨g, o + k * 3 + 0, none⟩ = _
      rw [Nat.add_zero]
      exact World.cell?_setCell_same _ _ _ q0'
    · show w.cell? ⟨g, o + k * 3 + (1 + j), none⟩ = (w.setCell ⟨g, o + k * 3, none⟩ (.bool b)).cell? ⟨g, o + k * 3 + (1 + j), none⟩
      rw [World.cell?_setCell_other _ _ _ _ (fun e => by injection e; omega)]
  · refine World.cell?_setCell_other _ _ _ _ (fun e => ?_)
    injection e with _ e _
    have hs : Cod.replicaR.size = 3 := rfl
    rw [hs, Nat.add_mul] at hi
    omega
  · exact hh d (List.mem_flatten.2 ⟨f, List.mem_of_getElem? hf, hd⟩)

/-- Is there a replica of that number, up or not as said? -/
def upIs (l : List ReplicaD) (r : Int) (b : Bool) : Bool := decide (0 ≤ r) && match l[r.toNat]? with
  | some x => x.Up == b
  | none => false

theorem upIs_nat {l : List ReplicaD} {m : Nat} (h : m < l.length) (b : Bool) : upIs l (m : Int) b = (l[m].Up == b) := by
  unfold upIs
  rw [Int.toNat_natCast, List.getElem?_eq_getElem h, decide_eq_true (by omega)]
  rfl
theorem upIs_out {l : List ReplicaD} {r : Int} (h : inB r 0 ((l.length : Int) - 1) = false) (b : Bool) : upIs l r b = false := by
  unfold upIs
  by_cases h0 : 0 ≤ r
  · have : ¬ r.toNat < l.length := fun hl => by
      have : inB r 0 ((l.length : Int) - 1) = true := inB_iff.2 (by omega)
      rw [h] at this
      cases this
    rw [List.getElem?_eq_none (by omega)]
    simp
  · rw [decide_eq_false h0]
    rfl

end Go.Proofs.Ytkcidneefdaaiaa


/- Is that replica of a drawn group up, or down? spec.l9Up. -/
namespace Go.Proofs.Ytkcidneefdaaiaa
open Go.RowKit

end Go.Proofs.Ytkcidneefdaaiaa


/- A group or none: what a move of a group gives. -/
namespace Go.Proofs.Ytkcidneefdaaiaa
open Go.RowKit

def pickG : Bool → GroupD → GroupD
  | true, g => g
  | false, _ => ⟨[], 0, 0⟩

theorem own_freeR {w : World} {base g o n cap : Nat} {l : List ReplicaD} (h : Own Cod.replicaR w base (.slice (some ⟨g, o, none⟩) n cap) l) (hl : 0 < l.length) : base ≤ g ∧ ∀ i, w.frozen? ⟨g, i, none⟩ = false := by
  obtain ⟨fp, ⟨a, cap', e, h1, h2, h3, h4⟩, m⟩ := h
  injection e with e1 e2 e3
  subst e1 e2 e3
  rcases h4 with ⟨rfl, _⟩ | ⟨b', off, fs, e, rfl, hb, he⟩
  · simp at hl
  injection e with e
  injection e with e1 e2
  subst e1 e2
  exact ⟨m.low _ (by simp), fun i => m.free _ (by simp) i⟩

/-- What is where in a fresh row of replicas. -/
theorem own_atR {w : World} {base n : Nat} {p : Option Addr} {cap : Nat} {l : List ReplicaD} (h : Own Cod.replicaR w base (.slice p n cap) l) (k : Nat) (hk : k < l.length) :
    ∃ g o, p = some ⟨g, o, none⟩ ∧ base ≤ g ∧ g < w.heap.size ∧ w.frozen? ⟨g, o + k * 3, none⟩ = false ∧ w.cell? ⟨g, o + k * 3, none⟩ = some (.bool l[k].Up) := by
  obtain ⟨p', c', e, _, _, r⟩ := (own_weakR h).rd.form
  injection e with e1 e2 e3
  subst e1
  obtain ⟨g, o, rfl, hg, hc⟩ := r (by omega)
  obtain ⟨h1, h2⟩ := own_freeR h (by omega)
  obtain ⟨d0, _⟩ := at_replica (hc k hk)
  exact ⟨g, o, rfl, h1, hg, h2 _, d0⟩

def startL (l : List ReplicaD) (r : Int) : List ReplicaD := match l[r.toNat]? with
  | some x => l.set r.toNat { x with Up := true }
  | none => l
theorem startL_nat {l : List ReplicaD} {m : Nat} (h : m < l.length) : startL l (m : Int) = l.set m { l[m] with Up := true } := by
  unfold startL
  rw [Int.toNat_natCast, List.getElem?_eq_getElem h]

end Go.Proofs.Ytkcidneefdaaiaa


/- Costs of groups that moves make. -/
namespace Go.Proofs.Ytkcidneefdaaiaa
open Go.RowKit

theorem sumC_set {α : Type} (f : α → Nat) (l : List α) (k : Nat) (x : α) (h : ∀ hk : k < l.length, f x = f l[k]) : sumC f (l.set k x) = sumC f l := by
  induction l generalizing k with
  | nil => rfl
  | cons a l ih =>
    cases k with
    | zero => have := h (by simp); simp only [List.getElem_cons_zero] at this; simp [sumC, this]
    | succ k => have := ih k (fun hk => by have := h (by simpa using hk); simpa using this); simp [sumC] at this ⊢; exact this

theorem costR_set (l : List ReplicaD) (k : Nat) (x : ReplicaD) (h : ∀ hk : k < l.length, x.Log = l[k].Log) : costReplicaS (l.set k x) = costReplicaS l := by
  unfold costReplicaS
  rw [List.length_set, sumC_set costReplica l k x (fun hk => by unfold costReplica; rw [h hk])]

theorem startL_cost (l : List ReplicaD) (r : Int) : costReplicaS (startL l r) = costReplicaS l := by
  unfold startL
  split
  · rename_i x hx
    obtain ⟨hk, rfl⟩ := List.getElem?_eq_some_iff.1 hx
    exact costR_set l _ _ (fun _ => rfl)
  · rfl

theorem pick_costGroup (q : Bool) (g : GroupD) : costGroup (pickG q g) ≤ costGroup g := by
  cases q
  · show costReplicaS [] ≤ _
    unfold costReplicaS
    simp [sumC]
  · exact Nat.le_refl _

end Go.Proofs.Ytkcidneefdaaiaa

