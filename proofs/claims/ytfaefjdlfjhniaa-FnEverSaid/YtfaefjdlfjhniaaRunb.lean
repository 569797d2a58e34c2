/- Plain lemmas and contracts that all proofs of this seat lean on: bundle Runb. -/
import Derived.Test.YtfaefjdlfjhniaaLogg
import Derived.Test.YtfaefjdlfjhniaaCrashb
import Derived.Test.YtfaefjdlfjhniaaStartb
import Derived.Test.YtfaefjdlfjhniaaElectb
import Derived.Test.YtfaefjdlfjhniaaPutb
import Derived.Test.YtfaefjdlfjhniaaAdvb
import Derived.Test.YtfaefjdlfjhniaaSafeb
import Derived.Test.YtfaefjdlfjhniaaNewg
import Derived.Test.YtfaefjdlfjhniaaPutentb
import Derived.Test.YtfaefjdlfjhniaaCopytob
import Derived.Test.YtfaefjdlfjhniaaCore
import Derived.Test.YtfaefjdlfjhniaaRowd
import Derived.Test.YtfaefjdlfjhniaaEqent
import Derived.Test.YtfaefjdlfjhniaaHeld
/- A run of a group of light entries: what holds at each step. -/
namespace Go.Proofs.Ytfaefjdlfjhniaa
open Go.RowKit

theorem sumC_const {α : Type} {f : α → Nat} {k : Nat} : ∀ {l : List α}, (∀ x ∈ l, f x ≤ k) → sumC f l ≤ l.length * k
  | [], _ => by simp [sumC]
  | a :: t, h => by
    have h1 := h a (by simp)
    have h2 := sumC_const (l := t) (fun x hx => h x (List.mem_cons_of_mem _ hx))
    unfold sumC at *
    rw [List.map_cons, List.sum_cons, List.length_cons, Nat.add_mul, Nat.one_mul]
    omega

/-- Entries without texts. -/
def Light (l : List EntryD) : Prop := ∀ e ∈ l, e.Rec.Reads = [] ∧ e.Rec.Writes = []
theorem light_cost {l : List EntryD} (h : Light l) : costEntryS l = l.length := by
  unfold costEntryS
  have := sumC_const (f := costEntry) (k := 0) (l := l) (fun e he => by
    unfold costEntry
    rw [(h e he).1, (h e he).2]
    simp [costStringS, costWriteS, sumC])
  omega

/-- A group on its way. -/
structure Run (g : GroupD) (C : List EntryD) : Prop where
  inv : Inv g C
  light : ∀ x ∈ g.Reps, Light x.Log

theorem Run.good {l : List ReplicaD} {t d : Int} {C : List EntryD} (h : Run ⟨l, t, d⟩ C) : goodGB l t d = true := h.inv.good
theorem Run.len {l : List ReplicaD} {t d : Int} {C : List EntryD} (h : Run ⟨l, t, d⟩ C) : l.length = 3 ∨ l.length = 5 := (goodG_iff.1 h.inv.good).1
theorem Run.term {l : List ReplicaD} {t d : Int} {C : List EntryD} (h : Run ⟨l, t, d⟩ C) : 0 ≤ t ∧ t ≤ 200 := (goodG_iff.1 h.inv.good).2.1
theorem Run.i64t {l : List ReplicaD} {t d : Int} {C : List EntryD} (h : Run ⟨l, t, d⟩ C) : I64 t := by have := h.term; unfold I64; omega
theorem Run.i64d {l : List ReplicaD} {t d : Int} {C : List EntryD} (h : Run ⟨l, t, d⟩ C) : I64 d := by
  have h1 := h.len
  rcases (goodG_iff.1 h.inv.good).2.2.2 with h2 | ⟨L, x, h2, h3, _⟩
  · have h2 : d = -1 := h2
    unfold I64; omega
  · have h2 : d = (L : Int) := h2
    have h4 : L < l.length := (List.getElem?_eq_some_iff.1 h3).1
    unfold I64; omega
theorem Run.logs {l : List ReplicaD} {t d : Int} {C : List EntryD} (h : Run ⟨l, t, d⟩ C) : ∀ x ∈ l, x.Log.length ≤ 60 := fun x hx => ((goodG_iff.1 h.inv.good).2.2.1 x hx).1.1
theorem Run.small {l : List ReplicaD} {t d : Int} {C : List EntryD} (h : Run ⟨l, t, d⟩ C) : costReplicaS l ≤ 400 := by
  have h1 := h.len
  have h2 := sumC_const (f := costReplica) (k := 60) (l := l) (fun x hx => by
    unfold costReplica
    rw [light_cost (h.light x hx)]
    exact h.logs x hx)
  unfold costReplicaS
  omega
theorem Run.cost {l : List ReplicaD} {t d : Int} {C : List EntryD} (h : Run ⟨l, t, d⟩ C) : costReplicaS l ≤ 1048576 := by have := h.small; omega
theorem Run.safe {l : List ReplicaD} {t d : Int} {C : List EntryD} (h : Run ⟨l, t, d⟩ C) : (goodGB l t d && pB (Safe ⟨l, t, d⟩)) = true := by
  rw [h.good, pB_true h.inv.safe]; rfl

theorem Run.start {n : Nat} (hn : n = 3 ∨ n = 5) : Run ⟨List.replicate n ⟨true, [], 0⟩, 0, -1⟩ [] :=
  ⟨Inv.start hn, fun x hx => by rw [List.eq_of_mem_replicate hx]; intro e he; cases he⟩

theorem upIs_true {l : List ReplicaD} {r : Int} {b : Bool} (h : upIs l r b = true) : ∃ m : Nat, r = (m : Int) ∧ ∃ hm : m < l.length, l[m].Up = b := by
  unfold upIs at h
  simp only [Bool.and_eq_true, decide_eq_true_eq] at h
  obtain ⟨h0, h1⟩ := h
  refine ⟨r.toNat, by omega, ?_⟩
  split at h1
  · rename_i x hx
    obtain ⟨hm, e⟩ := List.getElem?_eq_some_iff.1 hx
    exact ⟨hm, by rw [e]; simpa using h1⟩
  · cases h1

theorem light_set {l : List ReplicaD} {i : Nat} {a : ReplicaD} (h : ∀ x ∈ l, Light x.Log) (ha : Light a.Log) : ∀ x ∈ l.set i a, Light x.Log := fun x hx => by
  rcases mem_set hx with h1 | rfl
  · exact h x h1
  · exact ha

theorem Run.crash {l : List ReplicaD} {t d r : Int} {C : List EntryD} (h : Run ⟨l, t, d⟩ C) (hb : upIs l r true = true) : Run ⟨crashL l r, t, crashD d r⟩ C := by
  obtain ⟨m, rfl, hm, -⟩ := upIs_true hb
  rw [crashL_nat hm]
  refine ⟨h.inv.turn (List.getElem?_eq_getElem hm) false _ ?_, light_set h.light (h.light l[m] (List.getElem_mem hm))⟩
  by_cases e : d = (m : Int)
  · subst e; left; exact crashD_eq _
  · right; rw [crashD_ne e]; exact ⟨rfl, fun k => absurd k e⟩

theorem Run.elect {l : List ReplicaD} {t d r : Int} {C : List EntryD} (h : Run ⟨l, t, d⟩ C) (hb : electB l t d r = true) : Run ⟨l, t + 1, r⟩ C := by
  unfold electB at hb
  simp only [Bool.and_eq_true] at hb
  obtain ⟨⟨⟨_, h1⟩, h2⟩, h3⟩ := hb
  obtain ⟨m, rfl, hm, hup⟩ := upIs_true h1
  rw [winsB_nat hm] at h3
  exact ⟨h.inv.elect (List.getElem?_eq_getElem hm) hup (by simpa using h2) (of_decide_eq_true h3), h.light⟩

theorem Run.put {l : List ReplicaD} {t d : Int} {C : List EntryD} {r : RecD} (h : Run ⟨l, t, d⟩ C) (hb : putOk l d = true) (hr : goodRB r = true) (hl : r.Reads = [] ∧ r.Writes = []) : Run ⟨putL l t d r, t, d⟩ C := by
  by_cases hneg : d < 0
  · rw [putOk_neg hneg] at hb; cases hb
  obtain ⟨k, rfl, hk, -⟩ := good_lead h.good hneg
  rw [putOk_nat hk] at hb
  rw [putL_nat hk]
  refine ⟨h.inv.put rfl (List.getElem?_eq_getElem hk) (of_decide_eq_true hb) ⟨t, r⟩ rfl hr, light_set h.light ?_⟩
  intro e he
  rcases List.mem_append.1 he with h1 | h1
  · exact h.light _ (List.getElem_mem hk) e h1
  · rw [List.mem_singleton.1 h1]; exact hl

theorem Run.copy {l : List ReplicaD} {t d r : Int} {C : List EntryD} (h : Run ⟨l, t, d⟩ C) (hb : copyB l t d r = true) : Run ⟨copyL l d r, t, d⟩ C := by
  unfold copyB at hb
  simp only [Bool.and_eq_true, Bool.not_eq_true', decide_eq_false_iff_not, beq_eq_false_iff_ne] at hb
  obtain ⟨⟨_, h1⟩, h2, h3⟩ := hb
  obtain ⟨m, rfl, hm, hup⟩ := upIs_true h1
  obtain ⟨k, rfl, hk, -⟩ := good_lead h.good h2
  rw [copyL_nat hk hm]
  exact ⟨h.inv.copy rfl (List.getElem?_eq_getElem hk) (List.getElem?_eq_getElem hm) (fun e => h3 (by rw [e])), light_set h.light (h.light l[k] (List.getElem_mem hk))⟩

theorem advN_or (f : Nat → Bool) (s : Nat) : ∀ n, advN f s n = s ∨ ∃ i, i < n ∧ advN f s n = i + 1 ∧ f (i + 1) = true
  | 0 => Or.inl rfl
  | n + 1 => by
    rw [advN]
    split
    · exact Or.inl rfl
    · split
      · rename_i hf
        exact Or.inr ⟨n, by omega, rfl, hf⟩
      · rcases advN_or f s n with h | ⟨i, h1, h2, h3⟩
        · exact Or.inl h
        · exact Or.inr ⟨i, by omega, h2, h3⟩

theorem Run.adv {l : List ReplicaD} {t d : Int} {C : List EntryD} (h : Run ⟨l, t, d⟩ C) (hneg : ¬ d < 0) : ∃ C', C <+: C' ∧ Run ⟨advL l t d, t, d⟩ C' := by
  obtain ⟨k, rfl, hk, -⟩ := good_lead h.good hneg
  obtain ⟨s, hs, hsl⟩ := good_sure h.good (List.getElem_mem hk)
  have hx := List.getElem?_eq_getElem hk
  rw [advL_nat t hk]
  have hlt := light_set (i := k) (a := { l[k] with Sure := (advN (advF l t l[k].Log) l[k].Sure.toNat l[k].Log.length : Nat) }) h.light (h.light l[k] (List.getElem_mem hk))
  rcases advN_or (advF l t l[k].Log) l[k].Sure.toNat l[k].Log.length with h1 | ⟨i, hi, h2, h3⟩
  · rw [h1, hs, Int.toNat_natCast, ← hs]
    refine ⟨C, List.prefix_refl _, ?_⟩
    have : l.set k { l[k] with Sure := l[k].Sure } = l := List.set_getElem_self hk
    rw [this]
    exact h
  · rw [h2] at hlt ⊢
    rw [advF_at l t _ hi] at h3
    simp only [Bool.and_eq_true, beq_iff_eq, decide_eq_true_eq] at h3
    obtain ⟨h4, h5⟩ := h3
    obtain ⟨C', h6, h7⟩ := h.inv.commit rfl hx hi h4 (by
      show l.length < _
      have e : (fun y : ReplicaD => pB (l[k].Log.take (i + 1) <+: y.Log)) = fun y => begB y.Log l[k].Log (i + 1) := funext fun y => begB_prefix (by omega)
      rw [e]
      exact h5)
    exact ⟨C', h6, ⟨h7, hlt⟩⟩

end Go.Proofs.Ytfaefjdlfjhniaa


/- The contracts at a state of a run. Printed by mkrunc.py. -/
namespace Go.Proofs.Ytfaefjdlfjhniaa
open Go.RowKit

/-- A group that was returned. -/
def RetG (w : World) (l : List ReplicaD) (t d : Int) (e : Ending) (w' : World) : Prop :=
  ∃ p c, e = .returned (.tuple #[.agg #[.slice p l.length c, .int .i64 t, .int .i64 d], .bool true]) ∧ Own Cod.replica w' w.heap.size (.slice p l.length c) l ∧ Below w.heap.size w w'

theorem newRun_any (n : Nat) (hn : n = 3 ∨ n = 5) (w : World) : Calls Try.prog 8 #[.int .i64 (n : Int)] w (RetG w (List.replicate n ⟨true, [], 0⟩) 0 (-1)) := by
  have h := newGroup_any (n : Int) w
  have hm : manyI (n : Int) = true := by rcases hn with rfl | rfl <;> rfl
  rw [hm] at h
  refine h.mono ?_
  rintro e w' ⟨v', rfl, ho, hb⟩
  have e1 : (pickG true (newG (n : Int))).Reps = List.replicate n ⟨true, [], 0⟩ := rfl
  rw [e1] at ho
  obtain ⟨p, c, rfl⟩ := ho.form
  exact ⟨p, c, rfl, ho, hb⟩

theorem crashRun_any {v : Value} {l : List ReplicaD} {t d : Int} {C : List EntryD} (hR : Run ⟨l, t, d⟩ C) {r : Int} (hb : upIs l r true = true) (w : World) (h : Rd Cod.replica w v l) :
    Calls Try.prog 9 #[.agg #[v, .int .i64 t, .int .i64 d], .int .i64 r] w (RetG w (crashL l r) t (crashD d r)) := by
  have h := crash_any v l t d r hR.i64t hR.i64d hR.cost w h
  rw [show (goodGB l t d && upIs l r true) = true from by rw [hR.good, hb]; rfl] at h
  refine h.mono ?_
  rintro e w' ⟨v', rfl, ho, hb⟩
  obtain ⟨p, c, rfl⟩ := ho.form
  exact ⟨p, c, rfl, ho, hb⟩

theorem startRun_any {v : Value} {l : List ReplicaD} {t d : Int} {C : List EntryD} (hR : Run ⟨l, t, d⟩ C) {r : Int} (hb : upIs l r false = true) (w : World) (h : Rd Cod.replica w v l) :
    Calls Try.prog 61 #[.agg #[v, .int .i64 t, .int .i64 d], .int .i64 r] w (RetG w (startL l r) t d) := by
  have h := start_any v l t d r hR.i64t hR.i64d hR.cost w h
  rw [show (goodGB l t d && upIs l r false) = true from by rw [hR.good, hb]; rfl] at h
  refine h.mono ?_
  rintro e w' ⟨v', rfl, ho, hb⟩
  obtain ⟨p, c, rfl⟩ := ho.form
  exact ⟨p, c, rfl, ho, hb⟩

theorem electRun_any {v : Value} {l : List ReplicaD} {t d : Int} {C : List EntryD} (hR : Run ⟨l, t, d⟩ C) {r : Int} (hr : I64 r) (hb : electB l t d r = true) (w : World) (h : Rd Cod.replica w v l) :
    Calls Try.prog 10 #[.agg #[v, .int .i64 t, .int .i64 d], .int .i64 r] w (RetG w l (t + 1) r) := by
  have h := elect_any v l t d r hR.i64t hR.i64d hr hR.cost w h
  rw [hb] at h
  refine h.mono ?_
  rintro e w' ⟨v', rfl, ho, hb⟩
  obtain ⟨p, c, rfl⟩ := ho.form
  exact ⟨p, c, rfl, ho, hb⟩

theorem copyRun_any {v : Value} {l : List ReplicaD} {t d : Int} {C : List EntryD} (hR : Run ⟨l, t, d⟩ C) {r : Int} (hb : copyB l t d r = true) (w : World) (h : Rd Cod.replica w v l) :
    Calls Try.prog 15 #[.agg #[v, .int .i64 t, .int .i64 d], .int .i64 r] w (RetG w (copyL l d r) t d) := by
  have h := copyTo_any v l t d r hR.i64t hR.i64d hR.cost w h
  rw [hb] at h
  refine h.mono ?_
  rintro e w' ⟨v', rfl, ho, hb⟩
  obtain ⟨p, c, rfl⟩ := ho.form
  exact ⟨p, c, rfl, ho, hb⟩

theorem advRun_any {v : Value} {l : List ReplicaD} {t d : Int} {C : List EntryD} (hR : Run ⟨l, t, d⟩ C) (hb : advB l t d = true) (w : World) (h : Rd Cod.replica w v l) :
    Calls Try.prog 16 #[.agg #[v, .int .i64 t, .int .i64 d]] w (RetG w (advL l t d) t d) := by
  have h := advance_any v l t d hR.i64t hR.i64d hR.cost w h
  rw [hb] at h
  refine h.mono ?_
  rintro e w' ⟨v', rfl, ho, hb⟩
  obtain ⟨p, c, rfl⟩ := ho.form
  exact ⟨p, c, rfl, ho, hb⟩

theorem putRun_any {v : Value} {l : List ReplicaD} {t d : Int} {C : List EntryD} (hR : Run ⟨l, t, d⟩ C) {r : RecD} (hr : goodRB r = true) (hi : I64 r.Kind ∧ I64 r.Txn ∧ I64 r.Time ∧ I64 r.Lead) (hb : putOk l d = true) (w : World) (h : Rd Cod.replica w v l) (a b : Value) (ra : Rd Cod.str w a r.Reads) (rb : Rd Cod.write w b r.Writes) :
    Calls Try.prog 13 #[.agg #[v, .int .i64 t, .int .i64 d], .agg #[.int .i64 r.Kind, .int .i64 r.Txn, .int .i64 r.Time, .int .i64 r.Lead, a, b, .bool r.Yes]] w (RetG w (putL l t d r) t d) := by
  have h := put_any v l t d r hR.i64t hR.i64d hR.cost (Nat.le_trans (goodRB_cost hr) (by omega)) hi.1 hi.2.1 hi.2.2.1 hi.2.2.2 w h a b ra rb
  rw [show (goodGB l t d && putOk l d && goodRB r) = true from by rw [hR.good, hb, hr]; rfl] at h
  refine h.mono ?_
  rintro e w' ⟨v', rfl, ho, hb⟩
  obtain ⟨p, c, rfl⟩ := ho.form
  exact ⟨p, c, rfl, ho, hb⟩

theorem crashRunS_any {v : Value} {l : List ReplicaD} {t d : Int} {C : List EntryD} (hR : Run ⟨l, t, d⟩ C) {r : Int} (hb : upIs l r true = true) (w : World) (h : Rd Cod.replica w v l) :
    Calls Try.prog 63 #[.agg #[v, .int .i64 t, .int .i64 d], .int .i64 r] w (RetG w (crashL l r) t (crashD d r)) := by
  have h := crashS_any v l t d r hR.i64t hR.i64d hR.cost w h
  rw [show (goodGB l t d && upIs l r true) = true from by rw [hR.good, hb]; rfl] at h
  refine h.mono ?_
  rintro e w' ⟨v', rfl, ho, hb⟩
  obtain ⟨p, c, rfl⟩ := ho.form
  exact ⟨p, c, rfl, ho, hb⟩

theorem startRunS_any {v : Value} {l : List ReplicaD} {t d : Int} {C : List EntryD} (hR : Run ⟨l, t, d⟩ C) {r : Int} (hb : upIs l r false = true) (w : World) (h : Rd Cod.replica w v l) :
    Calls Try.prog 64 #[.agg #[v, .int .i64 t, .int .i64 d], .int .i64 r] w (RetG w (startL l r) t d) := by
  have h := startS_any v l t d r hR.i64t hR.i64d hR.cost w h
  rw [show (goodGB l t d && upIs l r false) = true from by rw [hR.good, hb]; rfl] at h
  refine h.mono ?_
  rintro e w' ⟨v', rfl, ho, hb⟩
  obtain ⟨p, c, rfl⟩ := ho.form
  exact ⟨p, c, rfl, ho, hb⟩

theorem electRunS_any {v : Value} {l : List ReplicaD} {t d : Int} {C : List EntryD} (hR : Run ⟨l, t, d⟩ C) {r : Int} (hr : I64 r) (hb : electB l t d r = true) (w : World) (h : Rd Cod.replica w v l) :
    Calls Try.prog 11 #[.agg #[v, .int .i64 t, .int .i64 d], .int .i64 r] w (RetG w l (t + 1) r) := by
  have h := electS_any v l t d r hR.i64t hR.i64d hr hR.cost w h
  rw [hb] at h
  refine h.mono ?_
  rintro e w' ⟨v', rfl, ho, hb⟩
  obtain ⟨p, c, rfl⟩ := ho.form
  exact ⟨p, c, rfl, ho, hb⟩

theorem copyRunS_any {v : Value} {l : List ReplicaD} {t d : Int} {C : List EntryD} (hR : Run ⟨l, t, d⟩ C) {r : Int} (hb : copyB l t d r = true) (w : World) (h : Rd Cod.replica w v l) :
    Calls Try.prog 66 #[.agg #[v, .int .i64 t, .int .i64 d], .int .i64 r] w (RetG w (copyL l d r) t d) := by
  have h := copyToS_any v l t d r hR.i64t hR.i64d hR.cost w h
  rw [hb] at h
  refine h.mono ?_
  rintro e w' ⟨v', rfl, ho, hb⟩
  obtain ⟨p, c, rfl⟩ := ho.form
  exact ⟨p, c, rfl, ho, hb⟩

theorem advRunS_any {v : Value} {l : List ReplicaD} {t d : Int} {C : List EntryD} (hR : Run ⟨l, t, d⟩ C) (hb : advB l t d = true) (w : World) (h : Rd Cod.replica w v l) :
    Calls Try.prog 67 #[.agg #[v, .int .i64 t, .int .i64 d]] w (RetG w (advL l t d) t d) := by
  have h := advanceS_any v l t d hR.i64t hR.i64d hR.cost w h
  rw [hb] at h
  refine h.mono ?_
  rintro e w' ⟨v', rfl, ho, hb⟩
  obtain ⟨p, c, rfl⟩ := ho.form
  exact ⟨p, c, rfl, ho, hb⟩

theorem putRunS_any {v : Value} {l : List ReplicaD} {t d : Int} {C : List EntryD} (hR : Run ⟨l, t, d⟩ C) {r : RecD} (hr : goodRB r = true) (hi : I64 r.Kind ∧ I64 r.Txn ∧ I64 r.Time ∧ I64 r.Lead) (hb : putOk l d = true) (w : World) (h : Rd Cod.replica w v l) (a b : Value) (ra : Rd Cod.str w a r.Reads) (rb : Rd Cod.write w b r.Writes) :
    Calls Try.prog 65 #[.agg #[v, .int .i64 t, .int .i64 d], .agg #[.int .i64 r.Kind, .int .i64 r.Txn, .int .i64 r.Time, .int .i64 r.Lead, a, b, .bool r.Yes]] w (RetG w (putL l t d r) t d) := by
  have h := putS_any v l t d r hR.i64t hR.i64d hR.cost (Nat.le_trans (goodRB_cost hr) (by omega)) hi.1 hi.2.1 hi.2.2.1 hi.2.2.2 w h a b ra rb
  rw [show (goodGB l t d && putOk l d && goodRB r) = true from by rw [hR.good, hb, hr]; rfl] at h
  refine h.mono ?_
  rintro e w' ⟨v', rfl, ho, hb⟩
  obtain ⟨p, c, rfl⟩ := ho.form
  exact ⟨p, c, rfl, ho, hb⟩

/-- impl.SureLog -/
theorem sureRun_any {v : Value} {l : List ReplicaD} {t d : Int} {C : List EntryD} (hR : Run ⟨l, t, d⟩ C) (hd : 0 ≤ d) (w : World) (h : Rd Cod.replica w v l) :
    Calls Try.prog 17 #[.agg #[v, .int .i64 t, .int .i64 d]] w fun e w' => ∃ p c, e = .returned (.tuple #[.slice p (sureL l d).length c, .bool true]) ∧ Own Cod.entry w' w.heap.size (.slice p (sureL l d).length c) (sureL l d) ∧ Below w.heap.size w w' := by
  have h := sureLog_any v l t d hR.i64t hR.i64d hR.cost w h
  rw [hR.good, decide_eq_true hd] at h
  refine h.mono ?_
  rintro e w' ⟨v', rfl, ho, hb⟩
  obtain ⟨p, c, rfl⟩ := ho.form
  exact ⟨p, c, rfl, ho, hb⟩
/-- impl.IsSafe -/
theorem safeRun_any {v : Value} {l : List ReplicaD} {t d : Int} {C : List EntryD} (hR : Run ⟨l, t, d⟩ C) (w : World) (h : Rd Cod.replica w v l) :
    Calls Try.prog 18 #[.agg #[v, .int .i64 t, .int .i64 d]] w fun e w' => e = .returned (.bool true) ∧ Below w.heap.size w w' := by
  have h := isSafe_any v l t d hR.i64t hR.i64d hR.cost w h
  rwa [hR.safe] at h

end Go.Proofs.Ytfaefjdlfjhniaa


/- What the drawn laws read of their code: vBig, vAt. -/
namespace Go.Proofs.Ytfaefjdlfjhniaa
open Go.RowKit

/-- A byte: one cell. -/
def Cod.u8 : Cod UInt8 := Cod.one (fun b => byteV b) (fun _ => True)

theorem opens_u8 {H : Type} {enc : TypeId × Value → H} {P : Program} {w : World} {t : TypeId} (ht : P.underlying t = some (.int .u8)) (hc : P.cellsOf t = 1) : Opens enc P w Cod.u8 t :=
  ⟨hc, fun _ _ _ h => by
    obtain ⟨n, rfl, _, hw⟩ := DataW.trod_int ht h
    have hw : 0 ≤ n ∧ n ≤ 255 := by simpa [Lit.wf, IntKind.min, IntKind.max, IntKind.signed, IntKind.bits] using hw
    refine ⟨UInt8.ofNat n.toNat, [], ?_, trivial, rfl⟩
    show some (Value.int .u8 n) = some (byteV (UInt8.ofNat n.toNat))
    rw [byteV_ofNat (by omega), Int.toNat_of_nonneg hw.1]⟩

theorem opensBytes {H : Type} {enc : TypeId × Value → H} {w : World} : Opens enc Try.prog w (Cod.slice Cod.u8) 22 := opens_slice Try.underlying22 (by kernel_rfl) (opens_u8 Try.underlying5 (by kernel_rfl)) (by decide)

theorem at_u8 {w : World} {g o : Nat} {x : UInt8} (h : At Cod.u8 w g o x) : w.cell? ⟨g, o, none⟩ = some (byteV x) := by
  obtain ⟨f, h0, _⟩ := h
  exact h0

set_option maxRecDepth 100000 in
/-- laws.vBig -/
theorem vBig_any (p : Option Addr) (n c : Nat) (w : World) (hn : (n : Int) ≤ 9223372036854775807) : Calls Try.prog 6 #[.slice p n c] w fun e w' => e = .returned (.bool (decide (65536 < n))) ∧ w = w' := by
  by_cases h : 65536 < n
  · have h2 : (65536 : Int) < (n : Int) := by omega
    have hd : decide (65536 < n) = true := decide_eq_true h
    rw [hd]
    go_enter Try.func6, Try.ntmps6
    go_wp2
    go_ret
    exact ⟨by simp; try omega, rfl⟩
  · have h2 : (n : Int) ≤ 65536 := by omega
    have hd : decide (65536 < n) = false := decide_eq_false h
    rw [hd]
    go_enter Try.func6, Try.ntmps6
    go_wp2
    go_ret
    exact ⟨by simp; try omega, rfl⟩

/-- What vAt gives. -/
def vAtN (l : List UInt8) (i : Nat) : Nat := match l[i]? with
  | some b => b.toNat
  | none => (i * 7 + l.length) % 256
theorem vAtN_lt (l : List UInt8) (i : Nat) : vAtN l i < 256 := by
  unfold vAtN
  split
  · rename_i b _
    have := b.toNat_lt
    omega
  · omega

set_option maxRecDepth 100000 in
/-- laws.vAt -/
theorem vAt_val (v : Value) (l : List UInt8) (hl : l.length ≤ 65536) (i : Nat) (hi : i ≤ 1048576) (w : World) (h : Rd Cod.u8 w v l) :
    Calls Try.prog 7 #[v, .int .i64 (i : Int)] w fun e w' => e = .returned (.int .i64 (vAtN l i : Int)) ∧ w = w' := by
  obtain ⟨p, c, rfl, _, _, r⟩ := h.form
  have HV : Hid (vAtN l i = vAtN l i) := Lib.hid rfl
  obtain ⟨n, hn⟩ : ∃ n : Nat, l.length = n := ⟨_, rfl⟩
  have hnb : (n : Int) ≤ 65536 := by omega
  have hib : (i : Int) ≤ 1048576 := by omega
  by_cases hlt : i < n
  · obtain ⟨g, o, rfl, hg, hc⟩ := r (by omega)
    have d0 := at_u8 (hc i (by omega))
    rw [show o + i * Cod.u8.size = o + i from by show o + i * 1 = _; omega] at d0
    have hx := (l[i]'(by omega)).toNat_lt
    have Hv : Hid (vAtN l i = (l[i]'(by omega)).toNat) := Lib.hid (by unfold vAtN; rw [List.getElem?_eq_getElem (by omega)])
    generalize vAtN l i = z at *
    generalize l[i]'(by omega) = x at *
    have hlt2 : (i : Int) < (n : Int) := by omega
    have hi0 : (0 : Int) ≤ (i : Int) := by omega
    rw [hn]
    clear hc r hn hl h HV
    unfold byteV at d0
    have hx0 : (0 : Int) ≤ (x.toNat : Int) := by omega
    have hx1 : (x.toNat : Int) < 256 := by omega
    go_enter Try.func7, Try.ntmps7
    go_wp2
    go_ret
    exact ⟨ret_int (by rw [Hv.out]), rfl⟩
  · have hlt2 : (n : Int) ≤ (i : Int) := by omega
    have Hv : Hid ((vAtN l i : Int) = ((i : Int) * 7 + (n : Int)) % 256) := Lib.hid (by
      unfold vAtN
      rw [List.getElem?_eq_none (by omega), hn]
      show (((i * 7 + n) % 256 : Nat) : Int) = _
      omega)
    generalize vAtN l i = z at *
    rw [hn]
    clear r hn hl h HV
    have ht : ((i : Int) * 7 + (n : Int)).tmod 256 = ((i : Int) * 7 + (n : Int)) % 256 := Int.tmod_eq_emod_of_nonneg (by omega)
    go_enter Try.func7, Try.ntmps7
    go_wp2
    go_ret
    exact ⟨ret_int (by rw [Hv.out]), rfl⟩

theorem vAt_any (v : Value) (l : List UInt8) (hl : l.length ≤ 65536) (i : Nat) (hi : i ≤ 1048576) (w : World) (h : Rd Cod.u8 w v l) :
    Calls Try.prog 7 #[v, .int .i64 (i : Int)] w fun e w' => (∃ x : Nat, x < 256 ∧ e = .returned (.int .i64 (x : Int))) ∧ w = w' :=
  (vAt_val v l hl i hi w h).mono fun _ _ ⟨he, hw⟩ => ⟨⟨_, vAtN_lt l i, he⟩, hw⟩

end Go.Proofs.Ytfaefjdlfjhniaa


/- laws.vBegins, vLog, vGroup, vRec. Printed by mkvgrp.py. -/
namespace Go.Proofs.Ytfaefjdlfjhniaa
open Go.RowKit

set_option maxRecDepth 100000 in
set_option maxHeartbeats 3200000 in
/-- laws.vBegins -/
theorem vBegM_any (v1 v2 : Value) (l1 l2 : List EntryD) (m : Nat) (hn2 : l2.length = m) (hl1 : costEntryS l1 ≤ 1048576) (hl2 : costEntryS l2 ≤ 1048576) (w : World) (h1 : Rd Cod.entry w v1 l1) (h2 : Rd Cod.entry w v2 l2) :
    Calls Try.prog 22 #[v1, v2] w fun e w' => e = .returned (.bool (begB l1 l2 m)) ∧ Below w.heap.size w w' := by
  obtain ⟨p1, c1, rfl, _, _, r1⟩ := h1.form
  obtain ⟨p2, c2, rfl, _, _, r2⟩ := h2.form
  have R1 := Lib.hid r1
  have R2 := Lib.hid r2
  have Hs1 := Lib.hid hl1
  have Hs2 := Lib.hid hl2
  clear r1 r2 h1 h2
  have Hb : Hid (begB l1 l2 m = pB (m ≤ l1.length ∧ m ≤ l2.length ∧ l1.take m = l2.take m)) := Lib.hid rfl
  generalize begB l1 l2 m = q at *
  have hlb : (l1.length : Int) ≤ 1048576 := by unfold costEntryS at hl1; omega
  obtain ⟨n1, hn1⟩ : ∃ n : Nat, l1.length = n := ⟨_, rfl⟩
  rw [hn1] at hlb
  rw [hn1, hn2]
  have Hn1 := Lib.hid hn1
  have Hn2 := Lib.hid hn2
  clear hn1 hn2 hl1 hl2
  by_cases ha : m ≤ n1
  rotate_left
  · have Hq : Hid (q = false) := Lib.hid (by rw [Hb.out]; exact pB_false fun h => ha (by have := h.1; rw [Hn1.out] at this; exact this))
    have hne : (n1 : Int) < (m : Int) := by omega
    clear R1 R2 Hb
    go_enter Try.func22, Try.ntmps22
    go_wp2
    go_ret
    exact ⟨ret_bool (by rw [Hq.out]), Below.refl _ _⟩
  have hm1 : (m : Int) ≤ (n1 : Int) := by omega
  have hd1 : decide (n1 < m) = false := by simp; omega
  go_enter Try.func22, Try.ntmps22
  go_wp2
  go_loopw [5] (fun i wr => ∃ k : Nat, i = .int .i64 (k : Int) ∧ k ≤ m ∧ Hid (∀ j (a : j < l1.length) (b : j < l2.length), j < k → l1[j] = l2[j]) ∧ Below w.heap.size w wr) (fun i _ => m - (intOf i).toNat)
  case atStart => exact ⟨0, rfl, Nat.zero_le _, Lib.hid (fun j _ _ h => by omega), Below.refl _ _⟩
  case round =>
    obtain ⟨k, rfl, hk, Hall, hb⟩ := hrel
    by_cases hlt : k < m
    · have hlt2 : (k : Int) < (m : Int) := by omega
      have hlt3 : (k : Int) < (n1 : Int) := by omega
      have hk1 : k < l1.length := by have := Hn1.out; omega
      have hk2 : k < l2.length := by have := Hn2.out; omega
      obtain ⟨g1, o1, rfl, hg1, hc1⟩ := R1.out (by omega)
      obtain ⟨g2, o2, rfl, hg2, hc2⟩ := R2.out (by omega)
      have at1 := (hc1 k hk1).below hg1 hb
      have at2 := (hc2 k hk2).below hg2 hb
      have hg1' : g1 < wr.heap.size := by have := hb.size; omega
      have hg2' : g2 < wr.heap.size := by have := hb.size; omega
      have hv1 := ent_le Hs1.out hk1
      have hv2 := ent_le Hs2.out hk2
      have Hne : Hid (¬ l1[k] = l2[k] → q = false) := Lib.hid fun h => by
        rw [Hb.out]
        refine pB_false fun e => h ?_
        have := congrArg (fun l => l[k]?) e.2.2
        simp only [List.getElem?_take_of_lt hlt, List.getElem?_eq_getElem hk1, List.getElem?_eq_getElem hk2] at this
        exact Option.some.inj this
      have Hnx : Hid (l1[k] = l2[k] → ∀ j (a : j < l1.length) (b : j < l2.length), j < k + 1 → l1[j] = l2[j]) := Lib.hid fun h j a b hj => by
        by_cases e : j = k
        · subst e; exact h
        · exact Hall.out j a b (by omega)
      obtain ⟨x, es⟩ : ∃ x, l1[k] = x := ⟨_, rfl⟩
      obtain ⟨y, et⟩ : ∃ y, l2[k] = y := ⟨_, rfl⟩
      rw [es] at at1 Hne Hnx hv1
      rw [et] at at2 Hne Hnx hv2
      clear hc1 hc2 es et hk1 hk2
      obtain ⟨d0, d1, d2, d3, d4, ⟨u5, d5, ru5⟩, ⟨u6, d6, ru6⟩, d7, _⟩ := at_entry at1
      obtain ⟨e0, e1, e2, e3, e4, ⟨v5, e5, rv5⟩, ⟨v6, e6, rv6⟩, e7, _⟩ := at_entry at2
      rw [show o1 + k * Cod.entry.size = o1 + k * 8 from rfl, show o2 + k * Cod.entry.size = o2 + k * 8 from rfl] at *
      obtain ⟨pu5, cu5, rfl, -⟩ := ru5.form
      obtain ⟨pu6, cu6, rfl, -⟩ := ru6.form
      obtain ⟨pv5, cv5, rfl, -⟩ := rv5.form
      obtain ⟨pv6, cv6, rfl, -⟩ := rv6.form
      clear at1 at2
      obtain ⟨T, ⟨K, X, I, L, R, W, Y⟩⟩ := x
      obtain ⟨T', ⟨K', X', I', L', R', W', Y'⟩⟩ := y
      dsimp only at *
      have Hc : Hid (∀ W0, Below wr.heap.size wr W0 → Calls Try.prog 44 #[.agg #[.int .i64 K, .int .i64 X, .int .i64 I, .int .i64 L, .slice pu5 R.length cu5, .slice pu6 W.length cu6, .bool Y], .agg #[.int .i64 K', .int .i64 X', .int .i64 I', .int .i64 L', .slice pv5 R'.length cv5, .slice pv6 W'.length cv6, .bool Y']] W0 fun e w' => e = .returned (.bool (pB ((⟨K, X, I, L, R, W, Y⟩ : RecD) = ⟨K', X', I', L', R', W', Y'⟩))) ∧ Below W0.heap.size W0 w') :=
        Lib.hid (fun W0 k => sameRecS_any ⟨K, X, I, L, R, W, Y⟩ ⟨K', X', I', L', R', W', Y'⟩ hv1.1 hv1.2 hv2.1 hv2.2 W0 _ _ _ _ (ru5.below k) (ru6.below k) (rv5.below k) (rv6.below k))
      have Hpq : Hid (pB ((⟨K, X, I, L, R, W, Y⟩ : RecD) = ⟨K', X', I', L', R', W', Y'⟩) = true → (⟨K, X, I, L, R, W, Y⟩ : RecD) = ⟨K', X', I', L', R', W', Y'⟩) := Lib.hid pB_iff.1
      have Hpn : Hid (pB ((⟨K, X, I, L, R, W, Y⟩ : RecD) = ⟨K', X', I', L', R', W', Y'⟩) = false → ¬ (⟨K, X, I, L, R, W, Y⟩ : RecD) = ⟨K', X', I', L', R', W', Y'⟩) := Lib.hid fun h e => by rw [pB_true e] at h; cases h
      clear hv1 hv2 ru5 ru6 rv5 rv6
      generalize pB ((⟨K, X, I, L, R, W, Y⟩ : RecD) = ⟨K', X', I', L', R', W', Y'⟩) = qq at *
      generalize R.length = nR at *
      generalize W.length = nW at *
      generalize R'.length = nR' at *
      generalize W'.length = nW' at *
      by_cases hT : T = T'
      · have HT := Lib.hid hT
        subst hT
        cases qq
        · have Hq := Lib.hid (Hne.out (fun e => Hpn.out rfl (by injection e)))
          clear Hne Hnx Hpq Hpn
          go_wp2_with fail
          refine wp_region_ext (by kernel_rfl) (by kernel_rfl) wr.heap.size ?_
          have hx2 := fun (u : World) (b o : Nat) (h : b < wr.heap.size) => ext_cell wr u b o h
          repeat (any_goals (go_big_quiet_step ((go_at_call 44; exact calls_ext (by first | (simp; done) | omega | (simp; omega)) (Hc.out _ (ext_below _ _ _))))))
          refine wpQuiet_nil ?_
          intro w2 hb2
          clear hx2
          go_wp2
          go_ret
          exact ⟨ret_bool (by rw [Hq.out]), below_after hb2 hb⟩
        · have Hq := Lib.hid (Hnx.out (by rw [Hpq.out rfl]))
          clear Hne Hnx Hpq Hpn
          go_wp2_with fail
          refine wp_region_ext (by kernel_rfl) (by kernel_rfl) wr.heap.size ?_
          have hx2 := fun (u : World) (b o : Nat) (h : b < wr.heap.size) => ext_cell wr u b o h
          repeat (any_goals (go_big_quiet_step ((go_at_call 44; exact calls_ext (by first | (simp; done) | omega | (simp; omega)) (Hc.out _ (ext_below _ _ _))))))
          refine wpQuiet_nil ?_
          intro w2 hb2
          clear hx2
          go_wp2
          go_roundw
          case rel =>
            exact ⟨k + 1, by go_num, by omega, Hq, below_after hb2 hb⟩
          case measure => simp [intOf]; omega
      · have Hq := Lib.hid (Hne.out (fun e => hT (by injection e)))
        clear Hne Hnx Hpq Hpn
        have hTb : (T != T') = true := by simpa using hT
        go_wp2_with fail
        refine wp_region_ext (by kernel_rfl) (by kernel_rfl) wr.heap.size ?_
        have hx2 := fun (u : World) (b o : Nat) (h : b < wr.heap.size) => ext_cell wr u b o h
        repeat (any_goals (go_big_quiet_step ((go_at_call 44; exact calls_ext (by first | (simp; done) | omega | (simp; omega)) (Hc.out _ (ext_below _ _ _))))))
        refine wpQuiet_nil ?_
        intro w2 hb2
        clear hx2
        go_wp2
        go_ret
        exact ⟨ret_bool (by rw [Hq.out]), below_after hb2 hb⟩
    · have hlt2 : (m : Int) ≤ (k : Int) := by omega
      obtain rfl : k = m := by omega
      have Hq : Hid (q = true) := Lib.hid (by
        rw [Hb.out]
        have h1 := Hn1.out
        have h2 := Hn2.out
        refine pB_true ⟨by omega, by omega, List.ext_getElem (by rw [List.length_take, List.length_take]; omega) fun j a b => ?_⟩
        rw [List.length_take] at a b
        rw [List.getElem_take, List.getElem_take]
        exact Hall.out j (by omega) (by omega) (by omega))
      go_wp2
      go_ret
      exact ⟨ret_bool (by rw [Hq.out]), hb⟩


theorem begB_all (l m : List EntryD) : begB l m m.length = pB (m <+: l) := by
  unfold begB
  refine pB_eq ?_
  rw [pB_iff, List.prefix_iff_eq_take, List.take_length]
  constructor
  · exact fun e => e.2.2.symm
  · intro e
    have := congrArg List.length e
    rw [List.length_take] at this
    exact ⟨by omega, Nat.le_refl _, e.symm⟩
/-- laws.vBegins -/
theorem vBegins_any (v1 v2 : Value) (l1 l2 : List EntryD) (hl1 : costEntryS l1 ≤ 1048576) (hl2 : costEntryS l2 ≤ 1048576) (w : World) (h1 : Rd Cod.entry w v1 l1) (h2 : Rd Cod.entry w v2 l2) :
    Calls Try.prog 22 #[v1, v2] w fun e w' => e = .returned (.bool (pB (l2 <+: l1))) ∧ Below w.heap.size w w' := by
  have h := vBegM_any v1 v2 l1 l2 l2.length rfl hl1 hl2 w h1 h2
  rwa [begB_all] at h

set_option maxRecDepth 100000 in
set_option maxHeartbeats 1600000 in
/-- laws.vLog: equal logs -/
theorem vLog_any (v1 v2 : Value) (l : List EntryD) (hl : costEntryS l ≤ 1048576) (w : World) (h1 : Rd Cod.entry w v1 l) (h2 : Rd Cod.entry w v2 l) :
    Calls Try.prog 34 #[v1, v2] w fun e w' => e = .returned (.bool true) ∧ Below w.heap.size w w' := by
  have Hb := Lib.hid (fun (W : World) (b : Below w.heap.size w W) => vBegins_any v1 v2 l l hl hl W (h1.below b) (h2.below b))
  rw [pB_true (List.prefix_refl l)] at Hb
  obtain ⟨p1, c1, rfl, -⟩ := h1.form
  obtain ⟨p2, c2, rfl, -⟩ := h2.form
  clear h1 h2
  generalize l.length = n at *
  go_enter Try.func34, Try.ntmps34
  go_wp2_with fail
  refine (Hb.out _ (Below.refl _ _)).mono ?_
  rintro e w2 ⟨rfl, hb2⟩
  go_wp2
  go_ret
  exact ⟨rfl, hb2⟩

set_option maxRecDepth 100000 in
set_option maxHeartbeats 3200000 in
/-- laws.vGroup: equal groups -/
theorem vGroup_any (v1 v2 : Value) (l : List ReplicaD) (t d : Int) (hl : costReplicaS l ≤ 1048576) (w : World) (h1 : Rd Cod.replica w v1 l) (h2 : Rd Cod.replica w v2 l) :
    Calls Try.prog 12 #[.agg #[v1, .int .i64 t, .int .i64 d], .agg #[v2, .int .i64 t, .int .i64 d]] w fun e w' => e = .returned (.bool true) ∧ Below w.heap.size w w' := by
  have Hce := Lib.hid (fun (k : Nat) (hk : k < l.length) => rep_le hl hk)
  obtain ⟨p1, c1, rfl, _, _, r1⟩ := h1.form
  obtain ⟨p2, c2, rfl, _, _, r2⟩ := h2.form
  have R1 := Lib.hid r1
  have R2 := Lib.hid r2
  clear r1 r2 h1 h2
  obtain ⟨n, hn⟩ : ∃ n : Nat, l.length = n := ⟨_, rfl⟩
  have Hn := Lib.hid hn
  have hnb : (n : Int) ≤ 1048576 := by unfold costReplicaS at hl; omega
  rw [hn]
  clear hn hl
  go_enter Try.func12, Try.ntmps12
  go_wp2
  go_loopw [5] (fun i wr => ∃ k : Nat, i = .int .i64 (k : Int) ∧ k ≤ n ∧ wr.cell? ⟨w.heap.size, 0, none⟩ = some (.slice p1 n c1) ∧ wr.cell? ⟨w.heap.size + 1, 0, none⟩ = some (.slice p2 n c2) ∧ w.heap.size + 1 < wr.heap.size ∧ Below w.heap.size w wr) (fun i _ => n - (intOf i).toNat)
  case atStart => exact ⟨0, rfl, Nat.zero_le _, by simp [go_sem], by simp [go_sem], by simp, by (repeat (first | (with_reducible exact Below.refl _ _) | (with_reducible refine below_setCell ?_ (by first | (simp; done) | (simp; omega) | omega)) | (with_reducible refine below_alloc _ ?_) | (with_reducible refine below_drewN ?_ _) | (with_reducible assumption) | (with_reducible refine below_after (by assumption) ?_)))⟩
  case round =>
    obtain ⟨k, rfl, hk, c0, c3, hsz, hb⟩ := hrel
    by_cases hlt : k < n
    · have hlt2 : (k : Int) < (n : Int) := by omega
      have hkl : k < l.length := by have := Hn.out; omega
      obtain ⟨g1, o1, rfl, hg1, hc1⟩ := R1.out (by omega)
      obtain ⟨g2, o2, rfl, hg2, hc2⟩ := R2.out (by omega)
      have at1 := (hc1 k hkl).below hg1 hb
      have at2 := (hc2 k hkl).below hg2 hb
      have hg1' : g1 < wr.heap.size := by have := hb.size; omega
      have hg2' : g2 < wr.heap.size := by have := hb.size; omega
      have hw0 : w.heap.size < wr.heap.size := by omega
      have hcx := Hce.out k hkl
      generalize l[k] = x at *
      obtain ⟨d0, ⟨u1, d1, ru⟩, d2, _⟩ := at_replica at1
      obtain ⟨e0, ⟨u2, e1, rv⟩, e2, _⟩ := at_replica at2
      rw [show o1 + k * Cod.replica.size = o1 + k * 3 from rfl] at d0 d1 d2
      rw [show o2 + k * Cod.replica.size = o2 + k * 3 from rfl] at e0 e1 e2
      have Hc := Lib.hid (fun (W : World) (b : Below wr.heap.size wr W) => vLog_any u1 u2 x.Log hcx W (ru.below b) (rv.below b))
      obtain ⟨q1, k1, rfl, -⟩ := ru.form
      obtain ⟨q2, k2, rfl, -⟩ := rv.form
      clear at1 at2 hc1 hc2 ru rv hcx hkl
      generalize x.Log.length = nx at *
      generalize x.Up = ux at *
      generalize x.Sure = sx at *
      have hbx : (ux != ux) = false := by simp
      go_wp2_with fail
      refine wp_region_ext (by kernel_rfl) (by kernel_rfl) wr.heap.size ?_
      have hx2 := fun (u : World) (b o : Nat) (h : b < wr.heap.size) => ext_cell wr u b o h
      repeat (any_goals (go_big_quiet_step ((go_at_call 34; (refine calls_ext (Nat.le_refl _) (Hc.out _ (ext_below _ _ _)))))))
      refine wpQuiet_nil ?_
      intro w2 hb2
      clear hx2
      replace c0 := cell_step hb2 c0
      replace c3 := cell_step hb2 c3
      go_wp2
      go_roundw
      case rel => exact ⟨k + 1, by go_num, by omega, c0, c3, Nat.lt_of_lt_of_le hsz hb2.size, below_after hb2 hb⟩
      case measure => simp [intOf]; omega
    · have hlt2 : (n : Int) ≤ (k : Int) := by omega
      obtain rfl : k = n := by omega
      go_wp2
      go_ret
      exact ⟨rfl, hb⟩

/-- A drawn record. -/
def recN (cd : List UInt8) (i : Nat) : RecD := if vAtN cd i % 2 = 0 then ⟨4, 0, ((1 + vAtN cd (i + 1) : Nat) : Int), 0, [], [], false⟩ else ⟨2, ((1 + vAtN cd (i + 1) % 60 : Nat) : Int), ((1 + vAtN cd (i + 2) : Nat) : Int), 0, [], [], true⟩

set_option maxRecDepth 100000 in
set_option maxHeartbeats 1600000 in
/-- laws.vRec -/
theorem vRec_any (v : Value) (cd : List UInt8) (hl : cd.length ≤ 65536) (i : Nat) (hi : i ≤ 65536) (w : World) (h : Rd Cod.u8 w v cd) :
    Calls Try.prog 14 #[v, .int .i64 (i : Int)] w fun e w' => e = .returned (.agg #[.int .i64 (recN cd i).Kind, .int .i64 (recN cd i).Txn, .int .i64 (recN cd i).Time, .int .i64 (recN cd i).Lead, .slice none 0 0, .slice none 0 0, .bool (recN cd i).Yes]) ∧ Below w.heap.size w w' := by
  have Hv := Lib.hid (fun (j : Nat) (hj : j ≤ 1048576) (W : World) (b : Below w.heap.size w W) => vAt_val v cd hl j hj W (h.below b))
  have Hr : Hid (recN cd i = if vAtN cd i % 2 = 0 then ⟨4, 0, ((1 + vAtN cd (i + 1) : Nat) : Int), 0, [], [], false⟩ else ⟨2, ((1 + vAtN cd (i + 1) % 60 : Nat) : Int), ((1 + vAtN cd (i + 2) : Nat) : Int), 0, [], [], true⟩) := Lib.hid rfl
  have H0 := Lib.hid (Hv.out i (by omega))
  have H1 : Hid (∀ W, Below w.heap.size w W → Calls Try.prog 7 #[v, .int .i64 ((i : Int) + 1)] W fun e w' => e = .returned (.int .i64 (vAtN cd (i + 1) : Int)) ∧ W = w') := Lib.hid (fun W b => Hv.out (i + 1) (by omega) W b)
  have H2 : Hid (∀ W, Below w.heap.size w W → Calls Try.prog 7 #[v, .int .i64 ((i : Int) + 2)] W fun e w' => e = .returned (.int .i64 (vAtN cd (i + 2) : Int)) ∧ W = w') := Lib.hid (fun W b => Hv.out (i + 2) (by omega) W b)
  obtain ⟨p, c, rfl, -⟩ := h.form
  have hib : (i : Int) ≤ 65536 := by omega
  have b0 : (vAtN cd i : Int) < 256 := by have := vAtN_lt cd i; omega
  have b1 : (vAtN cd (i + 1) : Int) < 256 := by have := vAtN_lt cd (i + 1); omega
  have b2 : (vAtN cd (i + 2) : Int) < 256 := by have := vAtN_lt cd (i + 2); omega
  clear Hv h hl
  generalize recN cd i = r at *
  generalize vAtN cd i = x0 at *
  generalize vAtN cd (i + 1) = x1 at *
  generalize vAtN cd (i + 2) = x2 at *
  generalize cd.length = n at *
  by_cases hx : x0 % 2 = 0
  · obtain rfl : r = ⟨4, 0, ((1 + x1 : Nat) : Int), 0, [], [], false⟩ := by rw [Hr.out, if_pos hx]
    have hx2 : ((x0 : Int) % 2) = 0 := by omega
    clear Hr
    dsimp only
    go_enter Try.func14, Try.ntmps14
    go_wp2_with fail
    refine (H0.out _ (by (repeat (first | (with_reducible exact Below.refl _ _) | (with_reducible refine below_setCell ?_ (by first | (simp; done) | (simp; omega) | omega)) | (with_reducible refine below_alloc _ ?_) | (with_reducible refine below_drewN ?_ _) | (with_reducible assumption) | (with_reducible refine below_after (by assumption) ?_))))).mono ?_
    rintro e w1 ⟨rfl, rfl⟩
    go_wp2_with fail
    refine (H1.out _ (by (repeat (first | (with_reducible exact Below.refl _ _) | (with_reducible refine below_setCell ?_ (by first | (simp; done) | (simp; omega) | omega)) | (with_reducible refine below_alloc _ ?_) | (with_reducible refine below_drewN ?_ _) | (with_reducible assumption) | (with_reducible refine below_after (by assumption) ?_))))).mono ?_
    rintro e w1 ⟨rfl, rfl⟩
    go_wp2
    refine bodyPost_ret (v := .agg #[.int .i64 4, .int .i64 0, .int .i64 (1 + (x1 : Int)), .int .i64 0, .slice none 0 0, .slice none 0 0, .bool false]) (by simp [results, Try.results14, go_sem]) rfl ⟨by simp, by (repeat (first | (with_reducible exact Below.refl _ _) | (with_reducible refine below_setCell ?_ (by first | (simp; done) | (simp; omega) | omega)) | (with_reducible refine below_alloc _ ?_) | (with_reducible refine below_drewN ?_ _) | (with_reducible assumption) | (with_reducible refine below_after (by assumption) ?_)))⟩
  · obtain rfl : r = ⟨2, ((1 + x1 % 60 : Nat) : Int), ((1 + x2 : Nat) : Int), 0, [], [], true⟩ := by rw [Hr.out, if_neg hx]
    have hx2 : ((x0 : Int) % 2) = 1 := by omega
    clear Hr
    dsimp only
    go_enter Try.func14, Try.ntmps14
    go_wp2_with fail
    refine (H0.out _ (by (repeat (first | (with_reducible exact Below.refl _ _) | (with_reducible refine below_setCell ?_ (by first | (simp; done) | (simp; omega) | omega)) | (with_reducible refine below_alloc _ ?_) | (with_reducible refine below_drewN ?_ _) | (with_reducible assumption) | (with_reducible refine below_after (by assumption) ?_))))).mono ?_
    rintro e w1 ⟨rfl, rfl⟩
    go_wp2_with fail
    refine (H1.out _ (by (repeat (first | (with_reducible exact Below.refl _ _) | (with_reducible refine below_setCell ?_ (by first | (simp; done) | (simp; omega) | omega)) | (with_reducible refine below_alloc _ ?_) | (with_reducible refine below_drewN ?_ _) | (with_reducible assumption) | (with_reducible refine below_after (by assumption) ?_))))).mono ?_
    rintro e w1 ⟨rfl, rfl⟩
    go_wp2_with fail
    refine (H2.out _ (by (repeat (first | (with_reducible exact Below.refl _ _) | (with_reducible refine below_setCell ?_ (by first | (simp; done) | (simp; omega) | omega)) | (with_reducible refine below_alloc _ ?_) | (with_reducible refine below_drewN ?_ _) | (with_reducible assumption) | (with_reducible refine below_after (by assumption) ?_))))).mono ?_
    rintro e w1 ⟨rfl, rfl⟩
    go_wp2
    refine bodyPost_ret (v := .agg #[.int .i64 2, .int .i64 (1 + (x1 : Int) % 60), .int .i64 (1 + (x2 : Int)), .int .i64 0, .slice none 0 0, .slice none 0 0, .bool true]) (by simp [results, Try.results14, go_sem]) rfl ⟨by simp, by (repeat (first | (with_reducible exact Below.refl _ _) | (with_reducible refine below_setCell ?_ (by first | (simp; done) | (simp; omega) | omega)) | (with_reducible refine below_alloc _ ?_) | (with_reducible refine below_drewN ?_ _) | (with_reducible assumption) | (with_reducible refine below_after (by assumption) ?_)))⟩


end Go.Proofs.Ytfaefjdlfjhniaa


/- FnOldTerm: the groups that it passes through. -/
namespace Go.Proofs.Ytfaefjdlfjhniaa
open Go.RowKit

theorem recN_light (cd : List UInt8) (i : Nat) : (recN cd i).Reads = [] ∧ (recN cd i).Writes = [] := by
  unfold recN; split <;> exact ⟨rfl, rfl⟩
theorem recN_good (cd : List UInt8) (i : Nat) : goodRB (recN cd i) = true := by
  have h1 := vAtN_lt cd (i + 1)
  have h2 := vAtN_lt cd (i + 2)
  unfold recN
  split
  · rw [goodRB_4 rfl]
    simp [floorB, inB]
    exact ⟨by decide, by omega, by omega⟩
  · rw [goodRB_2 (Or.inl rfl)]
    simp [doneB, inB]
    exact ⟨by decide, by omega, by omega⟩
theorem recN_i64 (cd : List UInt8) (i : Nat) : I64 (recN cd i).Kind ∧ I64 (recN cd i).Txn ∧ I64 (recN cd i).Time ∧ I64 (recN cd i).Lead := by
  have h1 := vAtN_lt cd (i + 1)
  have h2 := vAtN_lt cd (i + 2)
  unfold recN I64
  split <;> refine ⟨?_, ?_, ?_, ?_⟩ <;> dsimp only <;> omega

/-- n drawn entries of term 1 -/
def entsN (cd : List UInt8) (f : Nat → Nat) (n : Nat) : List EntryD := (List.range n).map fun i => ⟨1, recN cd (f i)⟩
theorem entsN_len (cd : List UInt8) (f : Nat → Nat) (n : Nat) : (entsN cd f n).length = n := by simp [entsN]
theorem entsN_succ (cd : List UInt8) (f : Nat → Nat) (n : Nat) : entsN cd f (n + 1) = entsN cd f n ++ [⟨1, recN cd (f n)⟩] := by
  unfold entsN; rw [List.range_succ, List.map_append]; rfl
theorem entsN_term (cd : List UInt8) (f : Nat → Nat) (n : Nat) : ∀ e ∈ entsN cd f n, e.Term = 1 := fun e he => by
  unfold entsN at he
  obtain ⟨i, _, rfl⟩ := List.mem_map.1 he
  rfl
theorem newer_nil {L : List EntryD} (h : ∀ e ∈ L, 0 ≤ e.Term) : newerB [] L = false := by
  have h0 : 0 ≤ lastT L := by
    unfold lastT
    cases hl : L.getLast? with
    | none => exact Int.le_refl _
    | some e => exact h e (List.mem_of_getLast? hl)
  unfold newerB
  rw [lastT_nil]
  simp
  omega
theorem newer_self (L : List EntryD) : newerB L L = false := by
  unfold newerB; simp

/-- three replicas, the first with L -/
def trio (L M K : List EntryD) (s : Int) : List ReplicaD := [⟨true, L, s⟩, ⟨true, M, 0⟩, ⟨true, K, 0⟩]
theorem trio_new : List.replicate 3 (⟨true, [], 0⟩ : ReplicaD) = trio [] [] [] 0 := rfl

theorem trio_votes {L M K : List EntryD} {s : Int} (h1 : newerB M L = false) (h2 : newerB K L = false) : winsB (trio L M K s) 0 = true := by
  show decide _ = true
  unfold trio
  simp [voteB, h1, h2, newer_self]
theorem trio_elect {L M K : List EntryD} {s t d : Int} {C : List EntryD} (h : Run ⟨trio L M K s, t, d⟩ C) (ht : t < 200) (h1 : newerB M L = false) (h2 : newerB K L = false) : electB (trio L M K s) t d 0 = true := by
  unfold electB
  rw [h.good, trio_votes h1 h2, show (t == 200) = false from by simp; omega]
  rfl
theorem trio_putOk {L M K : List EntryD} {s : Int} (h : L.length < 60) : putOk (trio L M K s) 0 = true := by
  show (decide _ && decide _) = true
  simp
  exact h
theorem trio_put (L M K : List EntryD) (s t : Int) (r : RecD) : putL (trio L M K s) t 0 r = trio (L ++ [⟨t, r⟩]) M K s := rfl
theorem trio_copyB1 {L M K : List EntryD} {s t : Int} {C : List EntryD} (h : Run ⟨trio L M K s, t, 0⟩ C) : copyB (trio L M K s) t 0 1 = true := by
  unfold copyB; rw [h.good]; rfl
theorem trio_copyB2 {L M K : List EntryD} {s t : Int} {C : List EntryD} (h : Run ⟨trio L M K s, t, 0⟩ C) : copyB (trio L M K s) t 0 2 = true := by
  unfold copyB; rw [h.good]; rfl
theorem trio_copy1 (L M K : List EntryD) : copyL (trio L M K 0) 0 1 = trio L L K 0 := by
  show List.set _ _ _ = _
  simp [trio]
  omega
theorem trio_copy2 (L M K : List EntryD) : copyL (trio L M K 0) 0 2 = trio L M L 0 := by
  show List.set _ _ _ = _
  simp [trio]
  omega
theorem trio_advB {L M K : List EntryD} {s t : Int} {C : List EntryD} (h : Run ⟨trio L M K s, t, 0⟩ C) : advB (trio L M K s) t 0 = true := by
  unfold advB; rw [h.good]; rfl
theorem advN_none {f : Nat → Bool} : ∀ n, (∀ i, i < n → f (i + 1) = false) → advN f 0 n = 0
  | 0, _ => rfl
  | n + 1, h => by rw [advN_no (by omega) (h n (by omega))]; exact advN_none n (fun i hi => h i (by omega))
theorem trio_advNo {L M K : List EntryD} {t : Int} (h : ∀ e ∈ L, e.Term ≠ t) : advL (trio L M K 0) t 0 = trio L M K 0 := by
  have e : advN (advF (trio L M K 0) t L) 0 L.length = 0 := advN_none _ fun i hi => by
    rw [advF_at _ _ _ hi, show (L[i].Term == t) = false from by simpa using h _ (List.getElem_mem hi)]
    rfl
  show List.set _ _ _ = _
  simp only [trio, List.set_cons_zero]
  have e2 : advN (advF (trio L M K 0) t L) (0 : Int).toNat L.length = 0 := e
  unfold trio at e2
  rw [e2]
  rfl
theorem trio_advYes {L M K : List EntryD} {e : EntryD} (t : Int) (he : e.Term = t) (hm : M = L ++ [e] ∨ K = L ++ [e]) : advL (trio (L ++ [e]) M K 0) t 0 = trio (L ++ [e]) M K ((L.length + 1 : Nat) : Int) := by
  have hb : ∀ X : List EntryD, X = L ++ [e] → begB X (L ++ [e]) (L.length + 1) = true := fun X hX => by
    subst hX
    exact pB_true ⟨by simp, by simp, rfl⟩
  have e1 : advN (advF (trio (L ++ [e]) M K 0) t (L ++ [e])) 0 (L ++ [e]).length = L.length + 1 := by
    rw [List.length_append, List.length_singleton]
    refine advN_yes (by omega) ?_
    rw [advF_at _ _ _ (by simp)]
    rw [show ((L ++ [e])[L.length]'(by simp)).Term = t from by simp [he]]
    simp only [beq_self_eq_true, Bool.true_and, decide_eq_true_eq]
    unfold trio
    rcases hm with h | h
    · simp only [List.countP_cons, hb _ rfl, hb _ h, List.length_cons, List.length_nil, List.countP_nil, if_true]; omega
    · simp only [List.countP_cons, hb _ rfl, hb _ h, List.length_cons, List.length_nil, List.countP_nil, if_true]; omega
  show List.set _ _ _ = _
  simp only [trio, List.set_cons_zero]
  have e2 : advN (advF (trio (L ++ [e]) M K 0) t (L ++ [e])) (0 : Int).toNat (L ++ [e]).length = L.length + 1 := e1
  unfold trio at e2
  rw [e2]
  rfl
theorem trio_sure (L M K : List EntryD) (s : Nat) : sureL (trio L M K s) 0 = L.take s := rfl

end Go.Proofs.Ytfaefjdlfjhniaa


/- laws.FnOldTerm: what is known of its calls. Printed by mkold.py. -/
namespace Go.Proofs.Ytfaefjdlfjhniaa
open Go.RowKit

/-- A group of three that was returned. -/
def RetT (w : World) (l : List ReplicaD) (t d : Int) (e : Ending) (w' : World) : Prop :=
  ∃ p c, e = .returned (.tuple #[.agg #[.slice p 3 c, .int .i64 t, .int .i64 d], .bool true]) ∧ Own Cod.replica w' w.heap.size (.slice p 3 c) l ∧ Below w.heap.size w w'
theorem retT {w : World} {l : List ReplicaD} {t d : Int} {e : Ending} {w' : World} (hl : l.length = 3) (h : RetG w l t d e w') : RetT w l t d e w' := by
  unfold RetG at h
  rw [hl] at h
  exact h

theorem old_run (cd : List UInt8) (f : Nat → Nat) : ∀ n, n ≤ 5 → Run ⟨trio (entsN cd f n) [] [] 0, 1, 0⟩ []
  | 0, _ => (Run.start (Or.inl rfl)).elect (trio_elect (Run.start (Or.inl rfl)) (by omega) rfl rfl)
  | n + 1, h => by
    have h1 := old_run cd f n (by omega)
    have h2 := h1.put (r := recN cd (f n)) (trio_putOk (by rw [entsN_len]; omega)) (recN_good _ _) (recN_light _ _)
    rw [trio_put, ← entsN_succ] at h2
    exact h2

/-- What the walk needs of the group's run: r is the replica that is copied to, n the number of entries. -/
theorem old_facts (cd : List UInt8) (n r : Nat) (hn : 1 ≤ n) (hn4 : n ≤ 4) (hr : r = 1 ∨ r = 2) : ∃ (P : Nat → List ReplicaD) (B D E F : List ReplicaD),
    (∀ W, Calls Try.prog 8 #[.int .i64 3] W (RetT W (P 0) 0 (-1))) ∧
    (∀ W p c, Rd Cod.replica W (.slice p 3 c) (P 0) → Calls Try.prog 10 #[.agg #[.slice p 3 c, .int .i64 0, .int .i64 (-1)], .int .i64 0] W (RetT W (P 0) 1 0)) ∧
    (∀ k, k < n → ∀ W p c, Rd Cod.replica W (.slice p 3 c) (P k) → Calls Try.prog 13 #[.agg #[.slice p 3 c, .int .i64 1, .int .i64 0], .agg #[.int .i64 (recN cd (3 * k + 1)).Kind, .int .i64 (recN cd (3 * k + 1)).Txn, .int .i64 (recN cd (3 * k + 1)).Time, .int .i64 (recN cd (3 * k + 1)).Lead, .slice none 0 0, .slice none 0 0, .bool (recN cd (3 * k + 1)).Yes]] W (RetT W (P (k + 1)) 1 0)) ∧
    (∀ W p c, Rd Cod.replica W (.slice p 3 c) (P n) → Calls Try.prog 10 #[.agg #[.slice p 3 c, .int .i64 1, .int .i64 0], .int .i64 0] W (RetT W (P n) 2 0)) ∧
    (∀ W p c, Rd Cod.replica W (.slice p 3 c) (P n) → Calls Try.prog 15 #[.agg #[.slice p 3 c, .int .i64 2, .int .i64 0], .int .i64 (r : Int)] W (RetT W B 2 0)) ∧
    (∀ W p c, Rd Cod.replica W (.slice p 3 c) B → Calls Try.prog 16 #[.agg #[.slice p 3 c, .int .i64 2, .int .i64 0]] W (RetT W B 2 0)) ∧
    (∀ W p c, Rd Cod.replica W (.slice p 3 c) B → Calls Try.prog 67 #[.agg #[.slice p 3 c, .int .i64 2, .int .i64 0]] W (RetT W B 2 0)) ∧
    (∀ W p c p' c', Rd Cod.replica W (.slice p 3 c) B → Rd Cod.replica W (.slice p' 3 c') B → Calls Try.prog 12 #[.agg #[.slice p 3 c, .int .i64 2, .int .i64 0], .agg #[.slice p' 3 c', .int .i64 2, .int .i64 0]] W fun e w' => e = .returned (.bool true) ∧ Below W.heap.size W w') ∧
    (∀ W p c, Rd Cod.replica W (.slice p 3 c) B → Calls Try.prog 17 #[.agg #[.slice p 3 c, .int .i64 2, .int .i64 0]] W fun e w' => ∃ p c, e = .returned (.tuple #[.slice p 0 c, .bool true]) ∧ Below W.heap.size W w') ∧
    (∀ W p c, Rd Cod.replica W (.slice p 3 c) B → Calls Try.prog 13 #[.agg #[.slice p 3 c, .int .i64 2, .int .i64 0], .agg #[.int .i64 (recN cd 40).Kind, .int .i64 (recN cd 40).Txn, .int .i64 (recN cd 40).Time, .int .i64 (recN cd 40).Lead, .slice none 0 0, .slice none 0 0, .bool (recN cd 40).Yes]] W (RetT W D 2 0)) ∧
    (∀ W p c, Rd Cod.replica W (.slice p 3 c) D → Calls Try.prog 15 #[.agg #[.slice p 3 c, .int .i64 2, .int .i64 0], .int .i64 (r : Int)] W (RetT W E 2 0)) ∧
    (∀ W p c, Rd Cod.replica W (.slice p 3 c) E → Calls Try.prog 16 #[.agg #[.slice p 3 c, .int .i64 2, .int .i64 0]] W (RetT W F 2 0)) ∧
    (∀ W p c, Rd Cod.replica W (.slice p 3 c) F → Calls Try.prog 17 #[.agg #[.slice p 3 c, .int .i64 2, .int .i64 0]] W fun e w' => ∃ p c, e = .returned (.tuple #[.slice p (n + 1) c, .bool true]) ∧ Below W.heap.size W w') ∧
    (∀ W p c, Rd Cod.replica W (.slice p 3 c) F → Calls Try.prog 18 #[.agg #[.slice p 3 c, .int .i64 2, .int .i64 0]] W fun e w' => e = .returned (.bool true) ∧ Below W.heap.size W w') := by
  have hi2 : I64 0 := by unfold I64; omega
  have hir : I64 (r : Int) := by unfold I64; omega
  obtain ⟨L, hL⟩ : ∃ L, entsN cd (fun k => 3 * k + 1) n = L := ⟨_, rfl⟩
  have hLn : L.length = n := by rw [← hL, entsN_len]
  have hLt : ∀ e ∈ L, e.Term = 1 := by rw [← hL]; exact entsN_term _ _ _
  have R0 : Run ⟨trio [] [] [] 0, 0, -1⟩ [] := Run.start (Or.inl rfl)
  have RP := old_run cd (fun k => 3 * k + 1)
  have RN : Run ⟨trio L [] [] 0, 1, 0⟩ [] := hL ▸ RP n (by omega)
  have hnil : newerB [] L = false := newer_nil fun e he => by rw [hLt e he]; omega
  have hE2 := trio_elect RN (by omega) hnil hnil
  have RA : Run ⟨trio L [] [] 0, 2, 0⟩ [] := RN.elect hE2
  obtain ⟨M, K, hcp, hcB, hM⟩ : ∃ M K, copyL (trio L [] [] 0) 0 (r : Int) = trio L M K 0 ∧ copyB (trio L [] [] 0) 2 0 (r : Int) = true ∧ (∀ Y, ∃ M' K', copyL (trio Y M K 0) 0 (r : Int) = trio Y M' K' 0 ∧ (M' = Y ∨ K' = Y)) := by
    rcases hr with rfl | rfl
    · exact ⟨L, [], trio_copy1 _ _ _, trio_copyB1 RA, fun Y => ⟨Y, [], trio_copy1 _ _ _, Or.inl rfl⟩⟩
    · exact ⟨[], L, trio_copy2 _ _ _, trio_copyB2 RA, fun Y => ⟨[], Y, trio_copy2 _ _ _, Or.inr rfl⟩⟩
  have RB : Run ⟨trio L M K 0, 2, 0⟩ [] := hcp ▸ RA.copy hcB
  have hBno : advL (trio L M K 0) 2 0 = trio L M K 0 := trio_advNo fun e he => by rw [hLt e he]; omega
  have hpB := trio_putOk (M := M) (K := K) (s := 0) (show L.length < 60 by omega)
  have RD : Run ⟨trio (L ++ [⟨2, recN cd 40⟩]) M K 0, 2, 0⟩ [] := RB.put hpB (recN_good cd 40) (recN_light cd 40)
  obtain ⟨M', K', hcp2, hMK⟩ := hM (L ++ [⟨2, recN cd 40⟩])
  have hcB2 : copyB (trio (L ++ [⟨2, recN cd 40⟩]) M K 0) 2 0 (r : Int) = true := by
    rcases hr with rfl | rfl
    · exact trio_copyB1 RD
    · exact trio_copyB2 RD
  have RE : Run ⟨trio (L ++ [⟨2, recN cd 40⟩]) M' K' 0, 2, 0⟩ [] := hcp2 ▸ RD.copy hcB2
  have hEy := trio_advYes (L := L) (M := M') (K := K') (e := ⟨2, recN cd 40⟩) 2 rfl hMK
  obtain ⟨C, -, RF⟩ := RE.adv (by omega)
  rw [hEy] at RF
  refine ⟨fun k => trio (entsN cd (fun k => 3 * k + 1) k) [] [] 0, trio L M K 0, trio (L ++ [⟨2, recN cd 40⟩]) M K 0, trio (L ++ [⟨2, recN cd 40⟩]) M' K' 0, trio (L ++ [⟨2, recN cd 40⟩]) M' K' ((L.length + 1 : Nat) : Int), ?_, ?_, ?_, ?_, ?_, ?_, ?_, ?_, ?_, ?_, ?_, ?_, ?_, ?_⟩
  · exact fun W => (newRun_any 3 (Or.inl rfl) W).mono fun _ _ h => retT rfl h
  · exact fun W p c h => (electRun_any R0 hi2 (trio_elect R0 (by omega) rfl rfl) W h).mono fun _ _ h => retT rfl h
  · intro k hk W p c h
    have h1 := putRun_any (RP k (by omega)) (recN_good cd (3 * k + 1)) (recN_i64 cd _) (trio_putOk (by rw [entsN_len]; omega)) W h (.slice none 0 0) (.slice none 0 0) (by rw [(recN_light cd _).1]; exact (own_nil _ W 0).rd) (by rw [(recN_light cd _).2]; exact (own_nil _ W 0).rd)
    rw [trio_put, ← entsN_succ (f := fun k => 3 * k + 1)] at h1
    exact h1.mono fun _ _ h => retT rfl h
  · dsimp only; rw [hL]; exact fun W p c h => (electRun_any RN hi2 hE2 W h).mono fun _ _ h => retT rfl h
  · dsimp only; rw [hL]; exact fun W p c h => (copyRun_any RA hcB W h).mono fun _ _ h => retT rfl (hcp ▸ h)
  · exact fun W p c h => (advRun_any RB (trio_advB RB) W h).mono fun _ _ h => retT rfl (by rw [hBno] at h; exact h)
  · exact fun W p c h => (advRunS_any RB (trio_advB RB) W h).mono fun _ _ h => retT rfl (by rw [hBno] at h; exact h)
  · exact fun W p c p' c' h h' => vGroup_any _ _ _ 2 0 RB.cost W h h'
  · exact fun W p c h => (sureRun_any RB (Int.le_refl _) W h).mono fun _ _ ⟨p, c, h1, _, h2⟩ => ⟨p, c, h1, h2⟩
  · exact fun W p c h => (putRun_any RB (recN_good cd 40) (recN_i64 cd _) hpB W h (.slice none 0 0) (.slice none 0 0) (by rw [(recN_light cd _).1]; exact (own_nil _ W 0).rd) (by rw [(recN_light cd _).2]; exact (own_nil _ W 0).rd)).mono fun _ _ h => retT rfl h
  · exact fun W p c h => (copyRun_any RD hcB2 W h).mono fun _ _ h => retT rfl (hcp2 ▸ h)
  · exact fun W p c h => (advRun_any RE (trio_advB RE) W h).mono fun _ _ h => retT rfl (by rw [hEy] at h; exact h)
  · intro W p c h
    have h1 := sureRun_any RF (Int.le_refl _) W h
    rw [trio_sure, show (L ++ [(⟨2, recN cd 40⟩ : EntryD)]).take (L.length + 1) = L ++ [⟨2, recN cd 40⟩] from by rw [List.take_of_length_le (by simp)], List.length_append, hLn] at h1
    exact h1.mono fun _ _ ⟨p, c, h1, _, h2⟩ => ⟨p, c, h1, h2⟩
  · exact fun W p c h => safeRun_any RF W h

end Go.Proofs.Ytfaefjdlfjhniaa

