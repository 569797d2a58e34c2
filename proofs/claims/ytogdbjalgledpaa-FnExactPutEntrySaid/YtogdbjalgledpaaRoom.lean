/- Slices whose room is known: an append of one element, in place or not. Plain lemmas over any program. -/
import Derived.Test.YtogdbjalgledpaaOwnLogM
import Derived.Test.YtogdbjalgledpaaData2
import Derived.ArgAppend
import Derived.Deep.RegionLaw
namespace Go.Proofs.Ytogdbjalgledpaa
open Go.RowKit

namespace Cod
/-- What a slice value reads as, its room known. -/
def rdR {α : Type} (c : Cod α) (w : World) (v : Value) (xs : List α) (fp : List Nat) : Prop :=
  (v = .slice none 0 0 ∧ xs = [] ∧ fp = []) ∨ ∃ b off cap fs cur e, v = .slice (some ⟨b, off, none⟩) xs.length cap ∧ xs.length ≤ cap ∧ cap ≤ maxLen ∧ fp = b :: fs.flatten ∧ w.heap[b]? = some (.cells cur e (0, 0)) ∧ off + cap * c.size ≤ cur.size ∧ elems c w b off xs fs

theorem rdR_rdS {α : Type} {c : Cod α} {w : World} {v : Value} {xs : List α} {fp : List Nat} (h : rdR c w v xs fp) : rdS c w v xs fp := by
  rcases h with ⟨rfl, rfl, rfl⟩ | ⟨b, off, cap, fs, cur, e, rfl, h1, h2, rfl, h3, _, h5⟩
  · exact ⟨none, 0, rfl, Nat.le_refl _, Nat.zero_le _, fun _ => rfl, Or.inl ⟨rfl, rfl⟩⟩
  · exact ⟨_, cap, rfl, h1, h2, (fun h => by cases h), Or.inr ⟨b, off, fs, rfl, rfl, (Array.getElem?_eq_some_iff.1 h3).1, h5⟩⟩

theorem rdR_frame {α : Type} (c : Cod α) {w w' : World} {v : Value} {xs : List α} {fp : List Nat} (hf : ∀ k ∈ fp, w'.heap[k]? = w.heap[k]?) (h : rdR c w v xs fp) : rdR c w' v xs fp := by
  rcases h with h | ⟨b, off, cap, fs, cur, e, rfl, h1, h2, rfl, h3, h4, h5⟩
  · exact Or.inl h
  · have hb := hf b List.mem_cons_self
    exact Or.inr ⟨b, off, cap, fs, cur, e, rfl, h1, h2, rfl, hb.trans h3, h4, elems_frame c hb (fun k hk => hf k (List.mem_cons_of_mem _ hk)) h5⟩

/-- A slice whose room is known: one cell. -/
def sliceR {α : Type} (c : Cod α) : Cod (List α) where
  size := 1
  rd w g xs fp := ∃ v, g 0 = some v ∧ rdR c w v xs fp
  ext h := fun ⟨v, a, b⟩ => ⟨v, (h 0 (Nat.lt_succ_self 0)) ▸ a, b⟩
  frame hf := fun ⟨v, a, b⟩ => ⟨v, a, rdR_frame c hf b⟩
  old := fun ⟨_, _, b⟩ => rdS_old c (rdR_rdS b)

def replicaR : Cod ReplicaD := Cod.via (Cod.pair (Cod.bool) (Cod.pair (Cod.sliceR Cod.entry) (Cod.int))) (fun x => (x.Up, x.Log, x.Sure))
end Cod

theorem replicaR_weak {w : World} {g : Nat → Option Value} {x : ReplicaD} {f : List Nat} (h : Cod.replicaR.rd w g x f) : Cod.replica.rd w g x f := by
  obtain ⟨f1, f2, e, h1, f3, f4, e2, ⟨v, hv, hr⟩, h3⟩ := h
  exact ⟨f1, f2, e, h1, f3, f4, e2, ⟨v, hv, Cod.rdR_rdS hr⟩, h3⟩

theorem elems_weak {α : Type} {c c' : Cod α} (hs : c'.size = c.size) (h : ∀ {w : World} {g : Nat → Option Value} {x : α} {f : List Nat}, c'.rd w g x f → c.rd w g x f) {w : World} {b : Nat} :
    ∀ {off : Nat} {xs : List α} {fs : List (List Nat)}, Cod.elems c' w b off xs fs → Cod.elems c w b off xs fs
  | _, [], [], _ => trivial
  | _, [], _ :: _, k => k
  | _, _ :: _, [], k => k
  | off, x :: xs, f :: fs, ⟨h1, h2⟩ => ⟨h h1, by rw [← hs]; exact elems_weak hs h h2⟩

theorem rdS_weak {α : Type} {c c' : Cod α} (hs : c'.size = c.size) (h : ∀ {w : World} {g : Nat → Option Value} {x : α} {f : List Nat}, c'.rd w g x f → c.rd w g x f) {w : World} {v : Value} {xs : List α} {fp : List Nat} (k : Cod.rdS c' w v xs fp) : Cod.rdS c w v xs fp := by
  obtain ⟨a, cap, hv, h1, h2, h3, h4⟩ := k
  refine ⟨a, cap, hv, h1, h2, h3, ?_⟩
  rcases h4 with h4 | ⟨b, off, fs, ha, hfp, hb, he⟩
  · exact Or.inl h4
  · exact Or.inr ⟨b, off, fs, ha, hfp, hb, elems_weak hs h he⟩

theorem own_weakR {w : World} {base : Nat} {v : Value} {xs : List ReplicaD} (h : Own Cod.replicaR w base v xs) : Own Cod.replica w base v xs := by
  obtain ⟨fp, h, m⟩ := h
  exact ⟨fp, rdS_weak (c := Cod.replica) (c' := Cod.replicaR) rfl replicaR_weak h, m⟩
theorem rd_weakR {w : World} {v : Value} {xs : List ReplicaD} (h : Rd Cod.replicaR w v xs) : Rd Cod.replica w v xs := by
  obtain ⟨fp, h⟩ := h
  exact ⟨fp, rdS_weak (c := Cod.replica) (c' := Cod.replicaR) rfl replicaR_weak h⟩

/-- A slice of the call's own, its room known. -/
def OwnR {α : Type} (c : Cod α) (w : World) (base : Nat) (v : Value) (xs : List α) : Prop := ∃ fp, Cod.rdR c w v xs fp ∧ Mine w base fp
theorem OwnR.own {α : Type} {c : Cod α} {w : World} {base : Nat} {v : Value} {xs : List α} (h : OwnR c w base v xs) : Own c w base v xs := by
  obtain ⟨fp, h, m⟩ := h
  exact ⟨fp, Cod.rdR_rdS h, m⟩
theorem OwnR.mono {α : Type} {c : Cod α} {w : World} {base base' : Nat} {v : Value} {xs : List α} (h : OwnR c w base v xs) (k : base' ≤ base) : OwnR c w base' v xs := by
  obtain ⟨fp, h, m⟩ := h
  exact ⟨fp, h, m.mono k⟩
theorem OwnR.form {α : Type} {c : Cod α} {w : World} {base : Nat} {v : Value} {xs : List α} (h : OwnR c w base v xs) : ∃ p cap, v = .slice p xs.length cap := h.own.form

theorem PartC.ownR {α : Type} {c : Cod α} {w : World} {base : Nat} {e : TypeId} {v : Value} {n : Nat} {xs : List α} {cells : List Value} (h : PartC c w base e v n xs cells) (hn : xs.length = n) : OwnR c w base v xs := by
  obtain ⟨fs, ho, _, hf, hr, hm, hlt, hb⟩ := h
  subst hn
  rcases ho.2 with ⟨rfl, h0⟩ | ⟨g, cap, cur, rfl, hg, hgb, hc1, hc2, hc3, _⟩
  · have hx : xs = [] := List.eq_nil_of_length_eq_zero h0
    subst hx
    exact ⟨[], Or.inl ⟨rfl, rfl, rfl⟩, Mine.nil _ _⟩
  · refine ⟨g :: fs.flatten, Or.inr ⟨g, 0, cap, fs, cur, e, rfl, hc1, hc2, rfl, hgb, by omega, Cod.elems_of c hf fun k hk f hkf => ?_⟩, ?_⟩
    · refine c.ext (fun i hi => ?_) (hr k hk f hkf)
      show _ = w.cell? ⟨g, 0 + k * c.size + i, none⟩
      rw [Nat.zero_add, ho.cellAt _ (idx_lt hk hi)]
    · refine ⟨List.nodup_cons.2 ⟨hb g rfl, hm.nodup⟩, fun b hb' => ?_, fun b hb' o => ?_⟩
      · rcases List.mem_cons.1 hb' with rfl | hb'
        · exact hg
        · exact hm.low b hb'
      · rcases List.mem_cons.1 hb' with rfl | hb'
        · exact ho.frozenAt o
        · exact hm.free b hb' o
theorem Part.ownR {α : Type} {c : Cod α} {w : World} {base : Nat} {e : TypeId} {v : Value} {n : Nat} {xs : List α} (h : Part c w base e v n xs) (hn : xs.length = n) : OwnR c w base v xs := by
  obtain ⟨cells, h⟩ := h
  exact h.ownR hn

end Go.Proofs.Ytogdbjalgledpaa
