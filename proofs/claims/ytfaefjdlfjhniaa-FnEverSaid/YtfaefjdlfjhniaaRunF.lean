/- A round of a drawn run of a group: what is known of its calls. Printed by mkrun2.py. -/
import Derived.Test.YtfaefjdlfjhniaaPlay
import Derived.Test.YtfaefjdlfjhniaaPlayS
import Derived.Test.YtfaefjdlfjhniaaVAct
import Derived.Test.YtfaefjdlfjhniaaRunb
namespace Go.Proofs.Ytfaefjdlfjhniaa
open Go.RowKit

/-- A drawn act. -/
theorem vAct_all (cd : List UInt8) (hl : cd.length ≤ 65536) (i n : Nat) (hn : 3 ≤ n ∧ n ≤ 5) (hi : i ≤ 60000) : ∃ K : Nat, 1 ≤ K ∧ K ≤ 6 ∧ ∃ S : Int, I64 S ∧ ∃ y : RecD, (y.Reads = [] ∧ y.Writes = []) ∧ (I64 y.Kind ∧ I64 y.Txn ∧ I64 y.Time ∧ I64 y.Lead) ∧
    ∀ p c w, Rd Cod.u8 w (.slice p cd.length c) cd → Calls Try.prog 19 #[.slice p cd.length c, .int .i64 (i : Int), .int .i64 (n : Int)] w fun e w' => e = .returned (actV K S y) ∧ Below w.heap.size w w' := by
  have hs := Nat.mod_lt (vAtN cd (i + 1)) (show 0 < n by omega)
  have hS : I64 ((vAtN cd (i + 1) % n : Nat) : Int) := by unfold I64; omega
  have hx0 := vAtN_lt cd i
  have hx1 := vAtN_lt cd (i + 1)
  refine ⟨kindN (vAtN cd i % 12), (kindN_in _).1, (kindN_in _).2, _, hS, actR cd i, actR_light cd i, actR_i64 cd i, fun p c w h => ?_⟩
  refine vAct_j p cd.length c i n (vAtN cd i) (vAtN cd (i + 1)) _ _ _ (actR cd i) rfl (by omega) (by omega) rfl hn hi rfl w ?_ ?_ ?_ ?_
  · exact fun W b => vAt_val _ cd hl i (by omega) W (h.below b)
  · exact fun W b => vAt_val _ cd hl (i + 1) (by omega) W (h.below b)
  · intro hK W b
    have e : actR cd i = recN cd (i + 2) := by unfold actR; rw [if_pos hK]
    rw [e]
    exact vRec_any _ cd hl (i + 2) (by omega) W (h.below b)
  · intro hK
    unfold actR
    rw [if_neg hK]

theorem prefix_cost {a b : List EntryD} (h : a <+: b) : costEntryS a ≤ costEntryS b := by
  obtain ⟨t, rfl⟩ := h
  unfold costEntryS sumC
  rw [List.map_append, List.sum_append, List.length_append]
  omega

/-- The leader of a run has all that is committed. -/
theorem Run.leadLog {g : GroupD} {C : List EntryD} (h : Run g C) (hd : 0 ≤ g.Lead) : ∃ (m : Nat) (hm : m < g.Reps.length), g.Lead = (m : Int) ∧ C <+: g.Reps[m].Log ∧ sureL g.Reps g.Lead <+: C ∧ Light g.Reps[m].Log ∧ g.Reps[m].Log.length ≤ 60 := by
  obtain ⟨m, hm, hk, -⟩ := good_lead (l := g.Reps) (term := g.Term) (lead := g.Lead) h.inv.good (by omega)
  refine ⟨m, hk, hm, ?_, ?_, h.light _ (List.getElem_mem hk), ((goodG_iff.1 h.inv.good).2.2.1 _ (List.getElem_mem hk)).1.1⟩
  · exact (h.inv.lead m _ hm (List.getElem?_eq_getElem hk)).2.2
  · unfold sureL
    rw [hm, Int.toNat_natCast, List.getElem?_eq_getElem hk]
    exact h.inv.sure _ (List.getElem_mem hk)

theorem play_facts {g : GroupD} {C : List EntryD} (hR : Run g C) (k : Nat) (hk : 1 ≤ k ∧ k ≤ 6) (r : Int) (hr : I64 r) (y : RecD) (hy : y.Reads = [] ∧ y.Writes = []) (hi : I64 y.Kind ∧ I64 y.Txn ∧ I64 y.Time ∧ I64 y.Lead) : ∃ (g' : GroupD) (C' : List EntryD), C <+: C' ∧ Run g' C' ∧
    (∀ W p c B m, Rd Cod.replica W (.slice p g.Reps.length c) g.Reps → B < W.heap.size → 1 ≤ m → ActAt W B k r y → Calls Try.prog 20 #[.agg #[.slice p g.Reps.length c, .int .i64 g.Term, .int .i64 g.Lead], .slice (some ⟨B, 0, none⟩) 1 m] W (RetG W g'.Reps g'.Term g'.Lead)) ∧
    (∀ W p c B m, Rd Cod.replica W (.slice p g.Reps.length c) g.Reps → B < W.heap.size → 1 ≤ m → ActAt W B k r y → Calls Try.prog 21 #[.agg #[.slice p g.Reps.length c, .int .i64 g.Term, .int .i64 g.Lead], .slice (some ⟨B, 0, none⟩) 1 m] W (RetG W g'.Reps g'.Term g'.Lead)) ∧
    (∀ W p c p' c', Rd Cod.replica W (.slice p g'.Reps.length c) g'.Reps → Rd Cod.replica W (.slice p' g'.Reps.length c') g'.Reps → Calls Try.prog 12 #[.agg #[.slice p g'.Reps.length c, .int .i64 g'.Term, .int .i64 g'.Lead], .agg #[.slice p' g'.Reps.length c', .int .i64 g'.Term, .int .i64 g'.Lead]] W fun e w' => e = .returned (.bool true) ∧ Below W.heap.size W w') ∧
    (∀ W p c, Rd Cod.replica W (.slice p g'.Reps.length c) g'.Reps → Calls Try.prog 23 #[.agg #[.slice p g'.Reps.length c, .int .i64 g'.Term, .int .i64 g'.Lead]] W fun e w' => e = .returned (.bool true) ∧ Below W.heap.size W w') ∧
    (∀ W p c, Rd Cod.replica W (.slice p g'.Reps.length c) g'.Reps → Calls Try.prog 18 #[.agg #[.slice p g'.Reps.length c, .int .i64 g'.Term, .int .i64 g'.Lead]] W fun e w' => e = .returned (.bool true) ∧ Below W.heap.size W w') ∧
    (0 ≤ g'.Lead → ∀ W p c, Rd Cod.replica W (.slice p g'.Reps.length c) g'.Reps → Calls Try.prog 17 #[.agg #[.slice p g'.Reps.length c, .int .i64 g'.Term, .int .i64 g'.Lead]] W fun e w' => ∃ p c, e = .returned (.tuple #[.slice p (sureL g'.Reps g'.Lead).length c, .bool true]) ∧ Own Cod.entry w' W.heap.size (.slice p (sureL g'.Reps g'.Lead).length c) (sureL g'.Reps g'.Lead) ∧ Below W.heap.size W w') := by
  obtain ⟨C', hC, hR'⟩ := hR.play (k := k) (r := r) hy
  obtain ⟨l, t, d⟩ := g
  refine ⟨playG ⟨l, t, d⟩ k r y, C', hC, hR', ?_, ?_, ?_, ?_, ?_, ?_⟩
  · exact fun W p c B m h hB hm hS => play_any k hk p c l t d r y hR hr hy hi W h B m hB hm hS
  · exact fun W p c B m h hB hm hS => playS_any k hk p c l t d r y hR hr hy hi W h B m hB hm hS
  all_goals generalize playG ⟨l, t, d⟩ k r y = g' at *
  all_goals obtain ⟨l', t', d'⟩ := g'
  · exact fun W p c p' c' h h' => vGroup_any _ _ _ _ _ hR'.cost W h h'
  · intro W p c h
    have h1 := goodGroup_any _ l' t' d' hR'.i64t hR'.i64d hR'.cost W h
    rw [hR'.good] at h1
    exact h1
  · exact fun W p c h => safeRun_any hR' W h
  · exact fun hd W p c h => sureRun_any hR' hd W h

theorem own_empty {α : Type} (c : Cod α) (w : World) (base : Nat) (p : Option Addr) (m : Nat) (h : m ≤ maxLen) (h2 : p = none → m = 0) : Own c w base (.slice p 0 m) [] :=
  ⟨[], ⟨p, m, rfl, Nat.zero_le _, h, h2, Or.inl ⟨rfl, rfl⟩⟩, Mine.nil _ _⟩

/-- What the walk of FnEver needs where there is a leader. -/
theorem ever_facts {g : GroupD} {C E : List EntryD} (hR : Run g C) (hE : E <+: C) (hc : costEntryS E ≤ 60) (hd : 0 ≤ g.Lead) : ∃ (m : Nat) (hm : m < g.Reps.length), g.Lead = (m : Int) ∧ sureL g.Reps g.Lead <+: C ∧ costEntryS (sureL g.Reps g.Lead) ≤ 60 ∧
    (∀ W u v, Rd Cod.entry W u g.Reps[m].Log → Rd Cod.entry W v E → Calls Try.prog 22 #[u, v] W fun e w' => e = .returned (.bool true) ∧ Below W.heap.size W w') ∧
    (∀ W u v, Rd Cod.entry W u (sureL g.Reps g.Lead) → Rd Cod.entry W v E → Calls Try.prog 22 #[u, v] W fun e w' => e = .returned (.bool (pB (E <+: sureL g.Reps g.Lead))) ∧ Below W.heap.size W w') ∧
    (pB (E <+: sureL g.Reps g.Lead) = false → ∀ W u v, Rd Cod.entry W u E → Rd Cod.entry W v (sureL g.Reps g.Lead) → Calls Try.prog 22 #[u, v] W fun e w' => e = .returned (.bool true) ∧ Below W.heap.size W w') := by
  obtain ⟨m, hm, h1, h2, h3, h4, h5⟩ := hR.leadLog hd
  have hL : costEntryS g.Reps[m].Log ≤ 60 := by rw [light_cost h4]; exact h5
  have hS : costEntryS (sureL g.Reps g.Lead) ≤ 60 := Nat.le_trans (prefix_cost (h3.trans h2)) hL
  refine ⟨m, hm, h1, h3, hS, ?_, ?_, ?_⟩
  · intro W u v ru rv
    have h := vBegins_any u v _ E (Nat.le_trans hL (by decide)) (Nat.le_trans hc (by decide)) W ru rv
    rwa [pB_true (hE.trans h2)] at h
  · intro W u v ru rv
    exact vBegins_any u v _ E (Nat.le_trans hS (by decide)) (Nat.le_trans hc (by decide)) W ru rv
  · intro hb W u v ru rv
    have h := vBegins_any u v E _ (Nat.le_trans hc (by decide)) (Nat.le_trans hS (by decide)) W ru rv
    rcases prefix_total hE h3 with h6 | h6
    · rw [pB_true h6] at hb; cases hb
    · rwa [pB_true h6] at h

end Go.Proofs.Ytfaefjdlfjhniaa
