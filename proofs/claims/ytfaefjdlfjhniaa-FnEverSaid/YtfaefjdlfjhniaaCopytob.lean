/- Plain lemmas and contracts that all proofs of this seat lean on: bundle Copytob. -/
import Derived.Test.YtfaefjdlfjhniaaCrashb
import Derived.Test.YtfaefjdlfjhniaaPutb
import Derived.Test.YtfaefjdlfjhniaaRowd
import Derived.Test.YtfaefjdlfjhniaaLogg
import Derived.Test.YtfaefjdlfjhniaaSafeb
import Derived.Test.YtfaefjdlfjhniaaCopyl
import Derived.Test.YtfaefjdlfjhniaaHeld
/- One replica laid anew: plain. -/
namespace Go.Proofs.Ytfaefjdlfjhniaa
open Go.RowKit

theorem own_setSure {w : World} {base g o n cap : Nat} {l : List ReplicaD} (h : Own Cod.replicaR w base (.slice (some ⟨g, o, none⟩) n cap) l) (k : Nat) (hk : k < l.length) (z : Int) (hz : I64 z) :
    Own Cod.replicaR (w.setCell ⟨g, o + k * 3 + 2, none⟩ (.int .i64 z)) base (.slice (some ⟨g, o, none⟩) n cap) (l.set k { l[k] with Sure := z }) := by
  obtain ⟨fp, ⟨a, cap', e, h1, h2, h3, h4⟩, m⟩ := h
  injection e with e1 e2 e3
  subst e1 e2 e3
  rcases h4 with ⟨rfl, _⟩ | ⟨b', off, fs, e, rfl, hb, he⟩
  · simp at hk
  injection e with e
  injection e with e1 e2
  subst e1 e2
  have hg : ∀ d ∈ fs.flatten, d ≠ g := fun d hd e => (List.nodup_cons.1 m.nodup).1 (e ▸ hd)
  have hh : ∀ d ∈ fs.flatten, (w.setCell ⟨g, o + k * 3 + 2, none⟩ (.int .i64 z)).heap[d]? = w.heap[d]? := fun d hd => heap_setCell_other w ⟨g, o + k * 3 + 2, none⟩ d (.int .i64 z) (hg d hd)
  refine ⟨g :: fs.flatten, ⟨_, cap, by rw [List.length_set], by rw [List.length_set]; exact h1, h2, h3, Or.inr ⟨g, o, fs, rfl, rfl, by simpa [World.setCell] using hb, elems_set he k hk _ (fun f hf => ?_) (fun i hi => ?_) (fun j _ f hf d hd => ?_)⟩⟩,
    ⟨m.nodup, m.low, fun d hd i => by rw [World.frozen?_setCell]; exact m.free d hd i⟩⟩
  · obtain ⟨f', hf', hr⟩ := Cod.elems_at _ he k hk
    rw [hf] at hf'
    injection hf' with hf'
    subst hf'
    obtain ⟨f1, f2, e, ⟨q0, _, e1⟩, f3, f4, e2, ⟨vL, hv, hR⟩, q3⟩ := hr
    obtain ⟨q3, q4, e4⟩ := q3
    subst e1 e4
    rw [List.nil_append] at e
    rw [List.append_nil] at e2
    subst e e2
    have hin : ∀ d ∈ f, d ∈ fs.flatten := fun d hd => List.mem_flatten.2 ⟨f, List.mem_of_getElem? hf, hd⟩
    have q0' : w.cell? ⟨g, o + k * 3 + 0, none⟩ = some (.bool l[k].Up) := q0
    have hv' : w.cell? ⟨g, o + k * 3 + (1 + 0), none⟩ = some vL := hv
    have q3' : w.cell? ⟨g, o + k * 3 + 2, none⟩ = some (.int .i64 l[k].Sure) := q3
    refine ⟨[], f, rfl, ⟨?_, trivial, rfl⟩, f, [], (List.append_nil _).symm, ⟨vL, ?_, Cod.rdR_frame _ (fun d hd => hh d (hin d hd)) hR⟩, ?_, hz, rfl⟩
    · show (w.setCell ⟨g, o + k * 3 + 2, none⟩ (.int .i64 z)).cell? ⟨g, o + k * 3 + 0, none⟩ = _
      exact (World.cell?_setCell_other _ _ _ _ (fun e => by injection e; omega)).trans q0'
    · show (w.setCell ⟨g, o + k * 3 + 2, none⟩ (.int .i64 z)).cell? ⟨g, o + k * 3 + (1 + 0), none⟩ = _
      exact (World.cell?_setCell_other _ _ _ _ (fun e => by injection e; omega)).trans hv'
    · show (w.setCell ⟨g, o + k * 3 + 2, none⟩ (.int .i64 z)).cell? ⟨g, o + k * 3 + (1 + (1 + 0)), none⟩ = _
      exact World.cell?_setCell_same _ _ _ q3'
  · refine World.cell?_setCell_other _ _ _ _ (fun e => ?_)
    injection e with _ e _
    have hs : Cod.replicaR.size = 3 := rfl
    rw [hs, Nat.add_mul] at hi
    omega
  · exact hh d (List.mem_flatten.2 ⟨f, List.mem_of_getElem? hf, hd⟩)

theorem own_heap {α : Type} {c : Cod α} {w w' : World} {base : Nat} {x : Value} {l : List α} (h : ∀ d : Nat, w'.heap[d]? = w.heap[d]?) (o : Own c w base x l) : Own c w' base x l := by
  obtain ⟨fp, h1, m⟩ := o
  exact ⟨fp, Cod.rdS_frame c (fun b _ => h b) h1, m.frame fun b _ => h b⟩
theorem heap_set {w w' : World} (h : ∀ d : Nat, w'.heap[d]? = w.heap[d]?) (p : Addr) (v : Value) (d : Nat) : (w'.setCell p v).heap[d]? = (w.setCell p v).heap[d]? := by
  simp only [World.setCell, Array.getElem?_modify, h]
theorem heap_swapOff (w : World) {b i j : Nat} (u v : Value) (h : i ≠ j) (d : Nat) : ((w.setCell ⟨b, i, none⟩ u).setCell ⟨b, j, none⟩ v).heap[d]? = ((w.setCell ⟨b, j, none⟩ v).setCell ⟨b, i, none⟩ u).heap[d]? := by
  simp only [World.setCell, Array.getElem?_modify]
  by_cases h1 : b = d
  · simp only [h1, if_true, Option.map_map]
    congr 1
    funext x
    cases x <;> simp [Array.setIfInBounds_comm _ _ h]
  · simp [h1]

theorem own_copyAt {w : World} {base g o n cap : Nat} {l : List ReplicaD} (h : Own Cod.replicaR w base (.slice (some ⟨g, o, none⟩) n cap) l) (k : Nat) (hk : k < l.length) {w' : World} {v' : Value} {L' : List EntryD} {fp' : List Nat}
    (hR : Cod.rdR Cod.entry w' v' L' fp') (hnd : fp'.Nodup) (hlow : ∀ b ∈ fp', base ≤ b ∧ w.heap.size ≤ b) (hfz : ∀ b ∈ fp', ∀ i, w'.frozen? ⟨b, i, none⟩ = false) (hold : ∀ b, base ≤ b → b < w.heap.size → w'.heap[b]? = w.heap[b]?) (hsz : w.heap.size ≤ w'.heap.size) (z : Int) (hz : I64 z) :
    Own Cod.replicaR (((w'.setCell ⟨g, o + k * 3, none⟩ (.bool true)).setCell ⟨g, o + k * 3 + 1, none⟩ v').setCell ⟨g, o + k * 3 + 2, none⟩ (.int .i64 z)) base (.slice (some ⟨g, o, none⟩) n cap) (l.set k ⟨true, L', z⟩) := by
  obtain ⟨fp, vL, _, _, _, _, _, _, hgo⟩ := own_logAt h k hk
  have o1 := hgo w' v' L' fp' hR hnd (fun b hb => ⟨(hlow b hb).1, Or.inr (hlow b hb).2⟩) hfz (fun b h1 h2 _ => hold b h1 h2) hsz
  have o2 := own_setUp o1 k (by rw [List.length_set]; exact hk) true
  have o3 := own_setSure o2 k (by rw [List.length_set, List.length_set]; exact hk) z hz
  simp only [List.getElem_set_self, List.set_set] at o3
  exact own_heap (heap_set (fun d => heap_swapOff _ _ _ (by omega) d) _ _) o3

theorem own_cells3 {w : World} {base g o n cap : Nat} {l : List ReplicaD} (h : Own Cod.replicaR w base (.slice (some ⟨g, o, none⟩) n cap) l) (k : Nat) (hk : k < l.length) :
    (∀ i, w.frozen? ⟨g, i, none⟩ = false) ∧ ∃ a b d, w.cell? ⟨g, o + k * 3, none⟩ = some a ∧ w.cell? ⟨g, o + k * 3 + 1, none⟩ = some b ∧ w.cell? ⟨g, o + k * 3 + 2, none⟩ = some d := by
  obtain ⟨p', c', e, _, _, r⟩ := (own_weakR h).rd.form
  injection e with e1 e2 e3
  subst e1
  obtain ⟨g2, o2, e2, hg, hc⟩ := r (by omega)
  injection e2 with e2
  injection e2 with e3 e4
  subst e3 e4
  obtain ⟨d0, ⟨u, d1, _⟩, d2, _⟩ := at_replica (hc k hk)
  exact ⟨(own_freeR h (by omega)).2, _, u, _, d0, d1, d2⟩

def copyL (l : List ReplicaD) (lead r : Int) : List ReplicaD := match l[lead.toNat]?, l[r.toNat]? with
  | some x, some y => l.set r.toNat ⟨true, x.Log, min (max x.Sure y.Sure) x.Log.length⟩
  | _, _ => l
theorem copyL_nat {l : List ReplicaD} {k m : Nat} (hk : k < l.length) (hm : m < l.length) : copyL l (k : Int) (m : Int) = l.set m ⟨true, l[k].Log, min (max l[k].Sure l[m].Sure) l[k].Log.length⟩ := by
  unfold copyL
  rw [Int.toNat_natCast, Int.toNat_natCast, List.getElem?_eq_getElem hk, List.getElem?_eq_getElem hm]
/-- Whether a copy of the leader's log to r is done. -/
noncomputable def copyB (l : List ReplicaD) (term lead r : Int) : Bool := (goodGB l term lead && upIs l r true) && (!decide (lead < 0) && !(lead == r))

end Go.Proofs.Ytfaefjdlfjhniaa


/- impl.CopyTo. Printed by mkcopyto.py. -/
namespace Go.Proofs.Ytfaefjdlfjhniaa
open Go.RowKit

set_option maxRecDepth 100000 in
set_option maxHeartbeats 6400000 in
/-- impl.CopyTo -/
theorem copyTo_any (v : Value) (l : List ReplicaD) (term lead r : Int) (ht : I64 term) (hd : I64 lead) (hl : costReplicaS l ≤ 1048576) (w : World) (h : Rd Cod.replica w v l) :
    Calls Try.prog 15 #[.agg #[v, .int .i64 term, .int .i64 lead], .int .i64 r] w fun e w' => ∃ v', e = .returned (.tuple #[.agg #[v', .int .i64 (pickG (copyB l term lead r) ⟨copyL l lead r, term, lead⟩).Term, .int .i64 (pickG (copyB l term lead r) ⟨copyL l lead r, term, lead⟩).Lead], .bool (copyB l term lead r)]) ∧
      Own Cod.replica w' w.heap.size v' (pickG (copyB l term lead r) ⟨copyL l lead r, term, lead⟩).Reps ∧ Below w.heap.size w w' := by
  have Hg := Lib.hid (fun (W : World) (k : Below w.heap.size w W) => goodGroup_any v l term lead ht hd hl W (h.below k))
  have Ho := Lib.hid (fun (W : World) (k : Below w.heap.size w W) => copyGroup_any v l term lead hl W (h.below k))
  have Hce := Lib.hid (fun (k : Nat) (hk : k < l.length) => rep_le hl hk)
  obtain ⟨p, c, rfl, _, _, rr⟩ := h.form
  have RR := Lib.hid rr
  obtain ⟨n, hn⟩ : ∃ n : Nat, l.length = n := ⟨_, rfl⟩
  have Hn := Lib.hid hn
  have hnb : (n : Int) ≤ 1048576 := by unfold costReplicaS at hl; omega
  have Hi := Lib.hid (fun W => isRep_any p n c hnb term lead r W)
  have Hu : Hid (inB r 0 ((n : Int) - 1) = false → upIs l r true = false) := Lib.hid fun h => upIs_out (by rw [hn]; exact h) true
  have Hld := Lib.hid (fun (hg : goodGB l term lead = true) => good_lead hg)
  have Hsu := Lib.hid (fun (hg : goodGB l term lead = true) (k : Nat) (hk : k < l.length) => good_sure hg (List.getElem_mem hk))
  have HE : Hid (copyB l term lead r = ((goodGB l term lead && upIs l r true) && (!decide (lead < 0) && !(lead == r)))) := Lib.hid rfl
  rw [hn] at Hg Ho ⊢
  clear hn hl h rr
  generalize copyB l term lead r = Q at *
  generalize goodGB l term lead = q at *
  cases q
  · obtain rfl : Q = false := by rw [HE.out, Bool.false_and, Bool.false_and]
    clear HE
    dsimp only [pickG]
    go_enter Try.func15, Try.ntmps15
    go_wp2_with fail
    refine (Hg.out _ (by (repeat (first | (with_reducible exact Below.refl _ _) | (with_reducible refine below_setCell ?_ (by first | (simp; done) | (simp; omega) | omega)) | (with_reducible refine below_alloc _ ?_) | (with_reducible refine below_drewN ?_ _) | (with_reducible assumption) | (with_reducible refine below_after (by assumption) ?_))))).mono ?_
    rintro e w1 ⟨rfl, k1⟩
    have b1 : Below w.heap.size w w1 := below_after k1 (by (repeat (first | (with_reducible exact Below.refl _ _) | (with_reducible refine below_setCell ?_ (by first | (simp; done) | (simp; omega) | omega)) | (with_reducible refine below_alloc _ ?_) | (with_reducible refine below_drewN ?_ _) | (with_reducible assumption) | (with_reducible refine below_after (by assumption) ?_))))
    have hx1 := bcell k1
    have c0 : w1.cell? ⟨w.heap.size, 0, none⟩ = some (.slice p n c) := by rw [hx1.1 _ _ (by first | (simp; done) | (simp; omega))]; simp [go_sem]
    have c1 : w1.cell? ⟨w.heap.size, 1, none⟩ = some (.int .i64 term) := by rw [hx1.1 _ _ (by first | (simp; done) | (simp; omega))]; simp [go_sem]
    have c2 : w1.cell? ⟨w.heap.size, 2, none⟩ = some (.int .i64 lead) := by rw [hx1.1 _ _ (by first | (simp; done) | (simp; omega))]; simp [go_sem]
    have r0 : w1.cell? ⟨w.heap.size + 1, 0, none⟩ = some (.slice none 0 0) := by rw [hx1.1 _ _ (by first | (simp; done) | (simp; omega))]; simp [go_sem]
    have r1 : w1.cell? ⟨w.heap.size + 1, 1, none⟩ = some (.int .i64 0) := by rw [hx1.1 _ _ (by first | (simp; done) | (simp; omega))]; simp [go_sem]
    have r2 : w1.cell? ⟨w.heap.size + 1, 2, none⟩ = some (.int .i64 0) := by rw [hx1.1 _ _ (by first | (simp; done) | (simp; omega))]; simp [go_sem]
    have g0 : w1.frozen? ⟨w.heap.size + 1, 0, none⟩ = false := by rw [hx1.2 _ _ (by first | (simp; done) | (simp; omega))]; simp [go_sem]
    have g1 : w1.frozen? ⟨w.heap.size + 1, 1, none⟩ = false := by rw [hx1.2 _ _ (by first | (simp; done) | (simp; omega))]; simp [go_sem]
    have g2 : w1.frozen? ⟨w.heap.size + 1, 2, none⟩ = false := by rw [hx1.2 _ _ (by first | (simp; done) | (simp; omega))]; simp [go_sem]
    have z1 : w.heap.size + 1 < w1.heap.size := by have := k1.size; simp at this; omega
    clear k1 hx1
    go_wp2
    refine bodyPost_ret (v := .tuple #[.agg #[.slice none 0 0, .int .i64 0, .int .i64 0], .bool false]) (by simp [results, Try.results15, go_sem, r0, r1, r2]) rfl ⟨_, rfl, own_nil _ _ _, by (repeat (first | (with_reducible exact Below.refl _ _) | (with_reducible refine below_setCell ?_ (by first | (simp; done) | (simp; omega) | omega)) | (with_reducible refine below_alloc _ ?_) | (with_reducible refine below_drewN ?_ _) | (with_reducible assumption) | (with_reducible refine below_after (by assumption) ?_)))⟩
  · by_cases hneg : lead < 0
    · obtain rfl : Q = false := by rw [HE.out, decide_eq_true hneg, Bool.not_true, Bool.false_and, Bool.and_false]
      clear HE
      dsimp only [pickG]
      go_enter Try.func15, Try.ntmps15
      go_wp2_with fail
      refine (Hg.out _ (by (repeat (first | (with_reducible exact Below.refl _ _) | (with_reducible refine below_setCell ?_ (by first | (simp; done) | (simp; omega) | omega)) | (with_reducible refine below_alloc _ ?_) | (with_reducible refine below_drewN ?_ _) | (with_reducible assumption) | (with_reducible refine below_after (by assumption) ?_))))).mono ?_
      rintro e w1 ⟨rfl, k1⟩
      have b1 : Below w.heap.size w w1 := below_after k1 (by (repeat (first | (with_reducible exact Below.refl _ _) | (with_reducible refine below_setCell ?_ (by first | (simp; done) | (simp; omega) | omega)) | (with_reducible refine below_alloc _ ?_) | (with_reducible refine below_drewN ?_ _) | (with_reducible assumption) | (with_reducible refine below_after (by assumption) ?_))))
      have hx1 := bcell k1
      have c0 : w1.cell? ⟨w.heap.size, 0, none⟩ = some (.slice p n c) := by rw [hx1.1 _ _ (by first | (simp; done) | (simp; omega))]; simp [go_sem]
      have c1 : w1.cell? ⟨w.heap.size, 1, none⟩ = some (.int .i64 term) := by rw [hx1.1 _ _ (by first | (simp; done) | (simp; omega))]; simp [go_sem]
      have c2 : w1.cell? ⟨w.heap.size, 2, none⟩ = some (.int .i64 lead) := by rw [hx1.1 _ _ (by first | (simp; done) | (simp; omega))]; simp [go_sem]
      have r0 : w1.cell? ⟨w.heap.size + 1, 0, none⟩ = some (.slice none 0 0) := by rw [hx1.1 _ _ (by first | (simp; done) | (simp; omega))]; simp [go_sem]
      have r1 : w1.cell? ⟨w.heap.size + 1, 1, none⟩ = some (.int .i64 0) := by rw [hx1.1 _ _ (by first | (simp; done) | (simp; omega))]; simp [go_sem]
      have r2 : w1.cell? ⟨w.heap.size + 1, 2, none⟩ = some (.int .i64 0) := by rw [hx1.1 _ _ (by first | (simp; done) | (simp; omega))]; simp [go_sem]
      have g0 : w1.frozen? ⟨w.heap.size + 1, 0, none⟩ = false := by rw [hx1.2 _ _ (by first | (simp; done) | (simp; omega))]; simp [go_sem]
      have g1 : w1.frozen? ⟨w.heap.size + 1, 1, none⟩ = false := by rw [hx1.2 _ _ (by first | (simp; done) | (simp; omega))]; simp [go_sem]
      have g2 : w1.frozen? ⟨w.heap.size + 1, 2, none⟩ = false := by rw [hx1.2 _ _ (by first | (simp; done) | (simp; omega))]; simp [go_sem]
      have z1 : w.heap.size + 1 < w1.heap.size := by have := k1.size; simp at this; omega
      clear k1 hx1
      go_wp2
      refine bodyPost_ret (v := .tuple #[.agg #[.slice none 0 0, .int .i64 0, .int .i64 0], .bool false]) (by simp [results, Try.results15, go_sem, r0, r1, r2]) rfl ⟨_, rfl, own_nil _ _ _, by (repeat (first | (with_reducible exact Below.refl _ _) | (with_reducible refine below_setCell ?_ (by first | (simp; done) | (simp; omega) | omega)) | (with_reducible refine below_alloc _ ?_) | (with_reducible refine below_drewN ?_ _) | (with_reducible assumption) | (with_reducible refine below_after (by assumption) ?_)))⟩
    · obtain ⟨k, rfl, hkl, h60⟩ := Hld.out rfl hneg
      have hkn : (k : Int) < (n : Int) := by have := Hn.out; omega
      have hk0 : (0 : Int) ≤ (k : Int) := by omega
      have hnd : decide ((k : Int) < 0) = false := decide_eq_false (by omega)
      simp only [hnd, Bool.not_false, Bool.true_and] at HE
      by_cases hrl : r = (k : Int)
      · have hrl2 : (r == (k : Int)) = true := by simpa using hrl
        obtain rfl : Q = false := by rw [HE.out, hrl]; simp
        clear HE
        dsimp only [pickG]
        go_enter Try.func15, Try.ntmps15
        go_wp2_with fail
        refine (Hg.out _ (by (repeat (first | (with_reducible exact Below.refl _ _) | (with_reducible refine below_setCell ?_ (by first | (simp; done) | (simp; omega) | omega)) | (with_reducible refine below_alloc _ ?_) | (with_reducible refine below_drewN ?_ _) | (with_reducible assumption) | (with_reducible refine below_after (by assumption) ?_))))).mono ?_
        rintro e w1 ⟨rfl, k1⟩
        have b1 : Below w.heap.size w w1 := below_after k1 (by (repeat (first | (with_reducible exact Below.refl _ _) | (with_reducible refine below_setCell ?_ (by first | (simp; done) | (simp; omega) | omega)) | (with_reducible refine below_alloc _ ?_) | (with_reducible refine below_drewN ?_ _) | (with_reducible assumption) | (with_reducible refine below_after (by assumption) ?_))))
        have hx1 := bcell k1
        have c0 : w1.cell? ⟨w.heap.size, 0, none⟩ = some (.slice p n c) := by rw [hx1.1 _ _ (by first | (simp; done) | (simp; omega))]; simp [go_sem]
        have c1 : w1.cell? ⟨w.heap.size, 1, none⟩ = some (.int .i64 term) := by rw [hx1.1 _ _ (by first | (simp; done) | (simp; omega))]; simp [go_sem]
        have c2 : w1.cell? ⟨w.heap.size, 2, none⟩ = some (.int .i64 (k : Int)) := by rw [hx1.1 _ _ (by first | (simp; done) | (simp; omega))]; simp [go_sem]
        have r0 : w1.cell? ⟨w.heap.size + 1, 0, none⟩ = some (.slice none 0 0) := by rw [hx1.1 _ _ (by first | (simp; done) | (simp; omega))]; simp [go_sem]
        have r1 : w1.cell? ⟨w.heap.size + 1, 1, none⟩ = some (.int .i64 0) := by rw [hx1.1 _ _ (by first | (simp; done) | (simp; omega))]; simp [go_sem]
        have r2 : w1.cell? ⟨w.heap.size + 1, 2, none⟩ = some (.int .i64 0) := by rw [hx1.1 _ _ (by first | (simp; done) | (simp; omega))]; simp [go_sem]
        have g0 : w1.frozen? ⟨w.heap.size + 1, 0, none⟩ = false := by rw [hx1.2 _ _ (by first | (simp; done) | (simp; omega))]; simp [go_sem]
        have g1 : w1.frozen? ⟨w.heap.size + 1, 1, none⟩ = false := by rw [hx1.2 _ _ (by first | (simp; done) | (simp; omega))]; simp [go_sem]
        have g2 : w1.frozen? ⟨w.heap.size + 1, 2, none⟩ = false := by rw [hx1.2 _ _ (by first | (simp; done) | (simp; omega))]; simp [go_sem]
        have z1 : w.heap.size + 1 < w1.heap.size := by have := k1.size; simp at this; omega
        clear k1 hx1
        go_wp2
        refine bodyPost_ret (v := .tuple #[.agg #[.slice none 0 0, .int .i64 0, .int .i64 0], .bool false]) (by simp [results, Try.results15, go_sem, r0, r1, r2]) rfl ⟨_, rfl, own_nil _ _ _, by (repeat (first | (with_reducible exact Below.refl _ _) | (with_reducible refine below_setCell ?_ (by first | (simp; done) | (simp; omega) | omega)) | (with_reducible refine below_alloc _ ?_) | (with_reducible refine below_drewN ?_ _) | (with_reducible assumption) | (with_reducible refine below_after (by assumption) ?_)))⟩
      · have hrl2 : (r == (k : Int)) = false := by simpa using hrl
        have hrl3 : ((k : Int) == r) = false := by simp; exact fun e => hrl e.symm
        simp only [hrl3, Bool.not_false, Bool.and_true] at HE
        generalize hq : inB r 0 ((n : Int) - 1) = q2 at *
        cases q2
        · obtain rfl : Q = false := by rw [HE.out, Hu.out rfl]
          clear HE hq hrl
          dsimp only [pickG]
          go_enter Try.func15, Try.ntmps15
          go_wp2_with fail
          refine (Hg.out _ (by (repeat (first | (with_reducible exact Below.refl _ _) | (with_reducible refine below_setCell ?_ (by first | (simp; done) | (simp; omega) | omega)) | (with_reducible refine below_alloc _ ?_) | (with_reducible refine below_drewN ?_ _) | (with_reducible assumption) | (with_reducible refine below_after (by assumption) ?_))))).mono ?_
          rintro e w1 ⟨rfl, k1⟩
          have b1 : Below w.heap.size w w1 := below_after k1 (by (repeat (first | (with_reducible exact Below.refl _ _) | (with_reducible refine below_setCell ?_ (by first | (simp; done) | (simp; omega) | omega)) | (with_reducible refine below_alloc _ ?_) | (with_reducible refine below_drewN ?_ _) | (with_reducible assumption) | (with_reducible refine below_after (by assumption) ?_))))
          have hx1 := bcell k1
          have c0 : w1.cell? ⟨w.heap.size, 0, none⟩ = some (.slice p n c) := by rw [hx1.1 _ _ (by first | (simp; done) | (simp; omega))]; simp [go_sem]
          have c1 : w1.cell? ⟨w.heap.size, 1, none⟩ = some (.int .i64 term) := by rw [hx1.1 _ _ (by first | (simp; done) | (simp; omega))]; simp [go_sem]
          have c2 : w1.cell? ⟨w.heap.size, 2, none⟩ = some (.int .i64 (k : Int)) := by rw [hx1.1 _ _ (by first | (simp; done) | (simp; omega))]; simp [go_sem]
          have r0 : w1.cell? ⟨w.heap.size + 1, 0, none⟩ = some (.slice none 0 0) := by rw [hx1.1 _ _ (by first | (simp; done) | (simp; omega))]; simp [go_sem]
          have r1 : w1.cell? ⟨w.heap.size + 1, 1, none⟩ = some (.int .i64 0) := by rw [hx1.1 _ _ (by first | (simp; done) | (simp; omega))]; simp [go_sem]
          have r2 : w1.cell? ⟨w.heap.size + 1, 2, none⟩ = some (.int .i64 0) := by rw [hx1.1 _ _ (by first | (simp; done) | (simp; omega))]; simp [go_sem]
          have g0 : w1.frozen? ⟨w.heap.size + 1, 0, none⟩ = false := by rw [hx1.2 _ _ (by first | (simp; done) | (simp; omega))]; simp [go_sem]
          have g1 : w1.frozen? ⟨w.heap.size + 1, 1, none⟩ = false := by rw [hx1.2 _ _ (by first | (simp; done) | (simp; omega))]; simp [go_sem]
          have g2 : w1.frozen? ⟨w.heap.size + 1, 2, none⟩ = false := by rw [hx1.2 _ _ (by first | (simp; done) | (simp; omega))]; simp [go_sem]
          have z1 : w.heap.size + 1 < w1.heap.size := by have := k1.size; simp at this; omega
          clear k1 hx1
          go_wp2_with fail
          refine (Hi.out _).mono ?_
          rintro e wi ⟨rfl, ki⟩
          have bi : Below w.heap.size w wi := below_after ki b1
          replace c0 := cell_step ki c0
          replace c1 := cell_step ki c1
          replace c2 := cell_step ki c2
          replace r0 := cell_step ki r0
          replace r1 := cell_step ki r1
          replace r2 := cell_step ki r2
          replace g0 : wi.frozen? ⟨w.heap.size + 1, 0, none⟩ = false := (ki.frozen (p := ⟨w.heap.size + 1, 0, none⟩) z1).trans g0
          replace g1 : wi.frozen? ⟨w.heap.size + 1, 1, none⟩ = false := (ki.frozen (p := ⟨w.heap.size + 1, 1, none⟩) z1).trans g1
          replace g2 : wi.frozen? ⟨w.heap.size + 1, 2, none⟩ = false := (ki.frozen (p := ⟨w.heap.size + 1, 2, none⟩) z1).trans g2
          replace z1 : w.heap.size + 1 < wi.heap.size := Nat.lt_of_lt_of_le z1 ki.size
          clear ki
          go_wp2
          refine bodyPost_ret (v := .tuple #[.agg #[.slice none 0 0, .int .i64 0, .int .i64 0], .bool false]) (by simp [results, Try.results15, go_sem, r0, r1, r2]) rfl ⟨_, rfl, own_nil _ _ _, by (repeat (first | (with_reducible exact Below.refl _ _) | (with_reducible refine below_setCell ?_ (by first | (simp; done) | (simp; omega) | omega)) | (with_reducible refine below_alloc _ ?_) | (with_reducible refine below_drewN ?_ _) | (with_reducible assumption) | (with_reducible refine below_after (by assumption) ?_)))⟩
        · have hr := inB_iff.1 hq
          obtain ⟨m, rfl⟩ : ∃ m : Nat, r = (m : Int) := ⟨r.toNat, by omega⟩
          have hml : m < l.length := by have := Hn.out; omega
          have hmn : (m : Int) < (n : Int) := by omega
          have hm0 : (0 : Int) ≤ (m : Int) := by omega
          have Hst := Lib.hid (copyL_nat hkl hml)
          obtain ⟨g, o, rfl, hg, hc⟩ := RR.out (by omega)
          obtain ⟨d0, _, dS, zS⟩ := at_replica (hc m hml)
          obtain ⟨t0, ⟨vL, dL, rL⟩, tS, zT⟩ := at_replica (hc k hkl)
          rw [show o + m * Cod.replica.size = o + m * 3 from rfl] at d0 dS
          rw [show o + k * Cod.replica.size = o + k * 3 from rfl] at t0 dL tS
          obtain ⟨s1, hs1, hs1l⟩ := Hsu.out rfl k hkl
          obtain ⟨s2, hs2, hs2l⟩ := Hsu.out rfl m hml
          rw [hs1] at tS
          rw [hs2] at dS
          have Hcp := Lib.hid (fun (W : World) (b : Below w.heap.size w W) => copyEntries_r vL l[k].Log (Hce.out k hkl) W (rL.below b))
          rw [upIs_nat hml true] at HE
          rw [hs1, hs2] at Hst
          obtain ⟨pL, cL, rfl, -⟩ := rL.form
          have hLl : (l[k].Log.length : Int) ≤ 60 := by omega
          have hsl : (s1 : Int) ≤ 60 := by omega
          have Hs2 : Hid ((s2 : Int) ≤ 1048576) := Lib.hid (by have := Hce.out m hml; unfold costEntryS at this; omega)
          generalize hup : l[m].Up = up at *
          clear hup hc hq hr rL RR Hu hs1 hs2 hs1l hs2l zS zT hrl Hsu Hld h60
          have hs2b := Hs2.out
          generalize l[k].Log = L at *
          generalize l[k].Up = upk at *
          obtain ⟨z, hz⟩ : ∃ z : Int, min (max (s1 : Int) (s2 : Int)) (L.length : Int) = z := ⟨_, rfl⟩
          have hzI : I64 z := by unfold I64; omega
          rw [hz] at Hst
          generalize hnL : L.length = nL at *
          have hzf : (if (nL : Int) < (if s1 < s2 then (s2 : Int) else (s1 : Int)) then (nL : Int) else (if s1 < s2 then (s2 : Int) else (s1 : Int))) = z := by
            rw [← hz]
            by_cases h1 : s1 < s2 <;> simp only [h1, if_true, if_false] <;> split <;> omega
          cases up
          · obtain rfl : Q = false := by rw [HE.out]; rfl
            clear HE
            dsimp only [pickG]
            go_enter Try.func15, Try.ntmps15
            go_wp2_with fail
            refine (Hg.out _ (by (repeat (first | (with_reducible exact Below.refl _ _) | (with_reducible refine below_setCell ?_ (by first | (simp; done) | (simp; omega) | omega)) | (with_reducible refine below_alloc _ ?_) | (with_reducible refine below_drewN ?_ _) | (with_reducible assumption) | (with_reducible refine below_after (by assumption) ?_))))).mono ?_
            rintro e w1 ⟨rfl, k1⟩
            have b1 : Below w.heap.size w w1 := below_after k1 (by (repeat (first | (with_reducible exact Below.refl _ _) | (with_reducible refine below_setCell ?_ (by first | (simp; done) | (simp; omega) | omega)) | (with_reducible refine below_alloc _ ?_) | (with_reducible refine below_drewN ?_ _) | (with_reducible assumption) | (with_reducible refine below_after (by assumption) ?_))))
            have hx1 := bcell k1
            have c0 : w1.cell? ⟨w.heap.size, 0, none⟩ = some (.slice (some ⟨g, o, none⟩) n c) := by rw [hx1.1 _ _ (by first | (simp; done) | (simp; omega))]; simp [go_sem]
            have c1 : w1.cell? ⟨w.heap.size, 1, none⟩ = some (.int .i64 term) := by rw [hx1.1 _ _ (by first | (simp; done) | (simp; omega))]; simp [go_sem]
            have c2 : w1.cell? ⟨w.heap.size, 2, none⟩ = some (.int .i64 (k : Int)) := by rw [hx1.1 _ _ (by first | (simp; done) | (simp; omega))]; simp [go_sem]
            have r0 : w1.cell? ⟨w.heap.size + 1, 0, none⟩ = some (.slice none 0 0) := by rw [hx1.1 _ _ (by first | (simp; done) | (simp; omega))]; simp [go_sem]
            have r1 : w1.cell? ⟨w.heap.size + 1, 1, none⟩ = some (.int .i64 0) := by rw [hx1.1 _ _ (by first | (simp; done) | (simp; omega))]; simp [go_sem]
            have r2 : w1.cell? ⟨w.heap.size + 1, 2, none⟩ = some (.int .i64 0) := by rw [hx1.1 _ _ (by first | (simp; done) | (simp; omega))]; simp [go_sem]
            have g0 : w1.frozen? ⟨w.heap.size + 1, 0, none⟩ = false := by rw [hx1.2 _ _ (by first | (simp; done) | (simp; omega))]; simp [go_sem]
            have g1 : w1.frozen? ⟨w.heap.size + 1, 1, none⟩ = false := by rw [hx1.2 _ _ (by first | (simp; done) | (simp; omega))]; simp [go_sem]
            have g2 : w1.frozen? ⟨w.heap.size + 1, 2, none⟩ = false := by rw [hx1.2 _ _ (by first | (simp; done) | (simp; omega))]; simp [go_sem]
            have z1 : w.heap.size + 1 < w1.heap.size := by have := k1.size; simp at this; omega
            clear k1 hx1
            replace d0 := cell_step b1 d0
            go_wp2_with fail
            refine (Hi.out _).mono ?_
            rintro e wi ⟨rfl, ki⟩
            have bi : Below w.heap.size w wi := below_after ki b1
            replace c0 := cell_step ki c0
            replace c1 := cell_step ki c1
            replace c2 := cell_step ki c2
            replace r0 := cell_step ki r0
            replace r1 := cell_step ki r1
            replace r2 := cell_step ki r2
            replace d0 := cell_step ki d0
            replace g0 : wi.frozen? ⟨w.heap.size + 1, 0, none⟩ = false := (ki.frozen (p := ⟨w.heap.size + 1, 0, none⟩) z1).trans g0
            replace g1 : wi.frozen? ⟨w.heap.size + 1, 1, none⟩ = false := (ki.frozen (p := ⟨w.heap.size + 1, 1, none⟩) z1).trans g1
            replace g2 : wi.frozen? ⟨w.heap.size + 1, 2, none⟩ = false := (ki.frozen (p := ⟨w.heap.size + 1, 2, none⟩) z1).trans g2
            replace z1 : w.heap.size + 1 < wi.heap.size := Nat.lt_of_lt_of_le z1 ki.size
            clear ki
            go_wp2
            refine bodyPost_ret (v := .tuple #[.agg #[.slice none 0 0, .int .i64 0, .int .i64 0], .bool false]) (by simp [results, Try.results15, go_sem, r0, r1, r2]) rfl ⟨_, rfl, own_nil _ _ _, by (repeat (first | (with_reducible exact Below.refl _ _) | (with_reducible refine below_setCell ?_ (by first | (simp; done) | (simp; omega) | omega)) | (with_reducible refine below_alloc _ ?_) | (with_reducible refine below_drewN ?_ _) | (with_reducible assumption) | (with_reducible refine below_after (by assumption) ?_)))⟩
          · obtain rfl : Q = true := by rw [HE.out]; rfl
            clear HE
            dsimp only [pickG]
            go_enter Try.func15, Try.ntmps15
            go_wp2_with fail
            refine (Hg.out _ (by (repeat (first | (with_reducible exact Below.refl _ _) | (with_reducible refine below_setCell ?_ (by first | (simp; done) | (simp; omega) | omega)) | (with_reducible refine below_alloc _ ?_) | (with_reducible refine below_drewN ?_ _) | (with_reducible assumption) | (with_reducible refine below_after (by assumption) ?_))))).mono ?_
            rintro e w1 ⟨rfl, k1⟩
            have b1 : Below w.heap.size w w1 := below_after k1 (by (repeat (first | (with_reducible exact Below.refl _ _) | (with_reducible refine below_setCell ?_ (by first | (simp; done) | (simp; omega) | omega)) | (with_reducible refine below_alloc _ ?_) | (with_reducible refine below_drewN ?_ _) | (with_reducible assumption) | (with_reducible refine below_after (by assumption) ?_))))
            have hx1 := bcell k1
            have c0 : w1.cell? ⟨w.heap.size, 0, none⟩ = some (.slice (some ⟨g, o, none⟩) n c) := by rw [hx1.1 _ _ (by first | (simp; done) | (simp; omega))]; simp [go_sem]
            have c1 : w1.cell? ⟨w.heap.size, 1, none⟩ = some (.int .i64 term) := by rw [hx1.1 _ _ (by first | (simp; done) | (simp; omega))]; simp [go_sem]
            have c2 : w1.cell? ⟨w.heap.size, 2, none⟩ = some (.int .i64 (k : Int)) := by rw [hx1.1 _ _ (by first | (simp; done) | (simp; omega))]; simp [go_sem]
            have r0 : w1.cell? ⟨w.heap.size + 1, 0, none⟩ = some (.slice none 0 0) := by rw [hx1.1 _ _ (by first | (simp; done) | (simp; omega))]; simp [go_sem]
            have r1 : w1.cell? ⟨w.heap.size + 1, 1, none⟩ = some (.int .i64 0) := by rw [hx1.1 _ _ (by first | (simp; done) | (simp; omega))]; simp [go_sem]
            have r2 : w1.cell? ⟨w.heap.size + 1, 2, none⟩ = some (.int .i64 0) := by rw [hx1.1 _ _ (by first | (simp; done) | (simp; omega))]; simp [go_sem]
            have g0 : w1.frozen? ⟨w.heap.size + 1, 0, none⟩ = false := by rw [hx1.2 _ _ (by first | (simp; done) | (simp; omega))]; simp [go_sem]
            have g1 : w1.frozen? ⟨w.heap.size + 1, 1, none⟩ = false := by rw [hx1.2 _ _ (by first | (simp; done) | (simp; omega))]; simp [go_sem]
            have g2 : w1.frozen? ⟨w.heap.size + 1, 2, none⟩ = false := by rw [hx1.2 _ _ (by first | (simp; done) | (simp; omega))]; simp [go_sem]
            have z1 : w.heap.size + 1 < w1.heap.size := by have := k1.size; simp at this; omega
            clear k1 hx1
            replace d0 := cell_step b1 d0
            replace dS := cell_step b1 dS
            replace t0 := cell_step b1 t0
            replace dL := cell_step b1 dL
            replace tS := cell_step b1 tS
            go_wp2_with fail
            refine (Hi.out _).mono ?_
            rintro e wi ⟨rfl, ki⟩
            have bi : Below w.heap.size w wi := below_after ki b1
            replace c0 := cell_step ki c0
            replace c1 := cell_step ki c1
            replace c2 := cell_step ki c2
            replace r0 := cell_step ki r0
            replace r1 := cell_step ki r1
            replace r2 := cell_step ki r2
            replace d0 := cell_step ki d0
            replace dS := cell_step ki dS
            replace t0 := cell_step ki t0
            replace dL := cell_step ki dL
            replace tS := cell_step ki tS
            replace g0 : wi.frozen? ⟨w.heap.size + 1, 0, none⟩ = false := (ki.frozen (p := ⟨w.heap.size + 1, 0, none⟩) z1).trans g0
            replace g1 : wi.frozen? ⟨w.heap.size + 1, 1, none⟩ = false := (ki.frozen (p := ⟨w.heap.size + 1, 1, none⟩) z1).trans g1
            replace g2 : wi.frozen? ⟨w.heap.size + 1, 2, none⟩ = false := (ki.frozen (p := ⟨w.heap.size + 1, 2, none⟩) z1).trans g2
            replace z1 : w.heap.size + 1 < wi.heap.size := Nat.lt_of_lt_of_le z1 ki.size
            clear ki
            have zi : w.heap.size + 1 < wi.heap.size := z1
            go_wp2_with fail
            refine (Ho.out _ bi).mono ?_
            rintro e w2 ⟨v', rfl, o2, k2⟩
            obtain ⟨p', c', rfl⟩ := o2.form
            obtain ⟨g', o', rfl, hg1, hg2, hgf, hgc⟩ := own_atR o2 m hml
            have b2 : Below w.heap.size w w2 := below_after k2 bi
            replace c0 := cell_step k2 c0
            replace c1 := cell_step k2 c1
            replace c2 := cell_step k2 c2
            replace r0 := cell_step k2 r0
            replace r1 := cell_step k2 r1
            replace r2 := cell_step k2 r2
            replace d0 := cell_step k2 d0
            replace dS := cell_step k2 dS
            replace t0 := cell_step k2 t0
            replace dL := cell_step k2 dL
            replace tS := cell_step k2 tS
            replace g0 : w2.frozen? ⟨w.heap.size + 1, 0, none⟩ = false := (k2.frozen (p := ⟨w.heap.size + 1, 0, none⟩) z1).trans g0
            replace g1 : w2.frozen? ⟨w.heap.size + 1, 1, none⟩ = false := (k2.frozen (p := ⟨w.heap.size + 1, 1, none⟩) z1).trans g1
            replace g2 : w2.frozen? ⟨w.heap.size + 1, 2, none⟩ = false := (k2.frozen (p := ⟨w.heap.size + 1, 2, none⟩) z1).trans g2
            replace z1 : w.heap.size + 1 < w2.heap.size := Nat.lt_of_lt_of_le z1 k2.size
            have z2 : wi.heap.size ≤ w2.heap.size := k2.size
            have hn3 : l.length = n := Hn.out
            rw [hn3] at o2 ⊢
            have O2 := Lib.hid o2
            clear o2 k2
            have zz0 : w.heap.size < w2.heap.size := by omega
            have zz1 : w.heap.size + 1 < w2.heap.size := by omega
            have zzg : g < w2.heap.size := by omega
            go_upto_region 4 with fail
            generalize hw3 : World.alloc _ _ = w3
            have b3 : Below w.heap.size w w3 := by rw [← hw3]; (repeat (first | (with_reducible exact Below.refl _ _) | (with_reducible refine below_setCell ?_ (by first | (simp; done) | (simp; omega) | omega)) | (with_reducible refine below_alloc _ ?_) | (with_reducible refine below_drewN ?_ _) | (with_reducible assumption) | (with_reducible refine below_after (by assumption) ?_)))
            have q0 : w3.cell? ⟨w2.heap.size, 0, none⟩ = some (.slice (some ⟨g', o', none⟩) n c') := by rw [← hw3]; simp [go_sem]
            have q1 : w3.cell? ⟨w2.heap.size, 1, none⟩ = some (.int .i64 term) := by rw [← hw3]; simp [go_sem]
            have q2 : w3.cell? ⟨w2.heap.size, 2, none⟩ = some (.int .i64 (k : Int)) := by rw [← hw3]; simp [go_sem]
            have z3 : w2.heap.size < w3.heap.size := by rw [← hw3]; simp
            have m3 : Below w2.heap.size w2 w3 := by rw [← hw3]; exact below_new _ _
            replace c0 := cell_step m3 c0
            replace c1 := cell_step m3 c1
            replace c2 := cell_step m3 c2
            replace r0 := cell_step m3 r0
            replace r1 := cell_step m3 r1
            replace r2 := cell_step m3 r2
            replace d0 := cell_step m3 d0
            replace dS := cell_step m3 dS
            replace t0 := cell_step m3 t0
            replace dL := cell_step m3 dL
            replace tS := cell_step m3 tS
            replace g0 : w3.frozen? ⟨w.heap.size + 1, 0, none⟩ = false := (m3.frozen (p := ⟨w.heap.size + 1, 0, none⟩) z1).trans g0
            replace g1 : w3.frozen? ⟨w.heap.size + 1, 1, none⟩ = false := (m3.frozen (p := ⟨w.heap.size + 1, 1, none⟩) z1).trans g1
            replace g2 : w3.frozen? ⟨w.heap.size + 1, 2, none⟩ = false := (m3.frozen (p := ⟨w.heap.size + 1, 2, none⟩) z1).trans g2
            replace z1 : w.heap.size + 1 < w3.heap.size := Nat.lt_of_lt_of_le z1 m3.size
            replace zz0 : w.heap.size < w3.heap.size := by omega
            replace zz1 : w.heap.size + 1 < w3.heap.size := by omega
            replace zzg : g < w3.heap.size := by omega
            clear hw3
            go_upto_region 5 with fail
            generalize hw4 : World.alloc _ _ = w4
            have b4 : Below w.heap.size w w4 := by rw [← hw4]; (repeat (first | (with_reducible exact Below.refl _ _) | (with_reducible refine below_setCell ?_ (by first | (simp; done) | (simp; omega) | omega)) | (with_reducible refine below_alloc _ ?_) | (with_reducible refine below_drewN ?_ _) | (with_reducible assumption) | (with_reducible refine below_after (by assumption) ?_)))
            have e1 : w4.cell? ⟨w3.heap.size, 1, none⟩ = some (.slice pL nL cL) := by rw [← hw4]; simp [go_sem]
            have e2 : w4.cell? ⟨w3.heap.size, 2, none⟩ = some (.int .i64 (s1 : Int)) := by rw [← hw4]; simp [go_sem]
            have z4 : w3.heap.size < w4.heap.size := by rw [← hw4]; simp
            have m4 : Below w3.heap.size w3 w4 := by rw [← hw4]; exact below_new _ _
            replace c0 := cell_step m4 c0
            replace c1 := cell_step m4 c1
            replace c2 := cell_step m4 c2
            replace r0 := cell_step m4 r0
            replace r1 := cell_step m4 r1
            replace r2 := cell_step m4 r2
            replace d0 := cell_step m4 d0
            replace dS := cell_step m4 dS
            replace t0 := cell_step m4 t0
            replace dL := cell_step m4 dL
            replace tS := cell_step m4 tS
            replace q0 := cell_step m4 q0
            replace q1 := cell_step m4 q1
            replace q2 := cell_step m4 q2
            replace g0 : w4.frozen? ⟨w.heap.size + 1, 0, none⟩ = false := (m4.frozen (p := ⟨w.heap.size + 1, 0, none⟩) z1).trans g0
            replace g1 : w4.frozen? ⟨w.heap.size + 1, 1, none⟩ = false := (m4.frozen (p := ⟨w.heap.size + 1, 1, none⟩) z1).trans g1
            replace g2 : w4.frozen? ⟨w.heap.size + 1, 2, none⟩ = false := (m4.frozen (p := ⟨w.heap.size + 1, 2, none⟩) z1).trans g2
            replace z1 : w.heap.size + 1 < w4.heap.size := Nat.lt_of_lt_of_le z1 m4.size
            have m24 : Below w2.heap.size w2 w4 := m3.trans (m4.mono m3.size)
            clear hw4 m3 m4
            refine wp_region_d 20 (fun w' => w'.cell? ⟨w2.heap.size, 0, none⟩ = some (.slice (some ⟨g', o', none⟩) n c') ∧ w'.cell? ⟨w3.heap.size, 1, none⟩ = some (.slice pL nL cL) ∧ w'.cell? ⟨w3.heap.size, 2, none⟩ = some (.int .i64 (s1 : Int)) ∧ w'.cell? ⟨w.heap.size, 0, none⟩ = some (.slice (some ⟨g, o, none⟩) n c) ∧ w'.cell? ⟨g, o + m * 3 + 2, none⟩ = some (.int .i64 (s2 : Int))) (by kernel_rfl) ?_
            have hS : w4.drew.cell? ⟨w2.heap.size, 0, none⟩ = some (.slice (some ⟨g', o', none⟩) n c') ∧ w4.drew.cell? ⟨w3.heap.size, 1, none⟩ = some (.slice pL nL cL) ∧ w4.drew.cell? ⟨w3.heap.size, 2, none⟩ = some (.int .i64 (s1 : Int)) ∧ w4.drew.cell? ⟨w.heap.size, 0, none⟩ = some (.slice (some ⟨g, o, none⟩) n c) ∧ w4.drew.cell? ⟨g, o + m * 3 + 2, none⟩ = some (.int .i64 (s2 : Int)) := ⟨q0, e1, e2, c0, dS⟩
            refine d_take (f := 30) (v := ?_) 0 rfl (by kernel_rfl) (fun _ _ _ h => h) (Or.inl ⟨by rfl, ?_⟩) hS ?_
            rotate_left
            · intro wx hx
              obtain ⟨x0, x1, x2, x3, x4⟩ := hx
              first | (go_simp; done) | (go_simp; with_reducible rfl)
            simp only [Act.put, List.setIfInBounds_toArray]
            refine d_take (f := 30) (v := ?_) 1 rfl (by kernel_rfl) (fun _ _ _ h => h) (Or.inl ⟨by rfl, ?_⟩) hS ?_
            rotate_left
            · intro wx hx
              obtain ⟨x0, x1, x2, x3, x4⟩ := hx
              first | (go_simp; done) | (go_simp; with_reducible rfl)
            simp only [Act.put]
            refine d_take (f := 30) (v := ?_) 2 rfl (by kernel_rfl) (fun _ _ _ h => h) (Or.inl ⟨by rfl, ?_⟩) hS ?_
            rotate_left
            · intro wx hx
              obtain ⟨x0, x1, x2, x3, x4⟩ := hx
              first | (go_simp; done) | (go_simp; with_reducible rfl)
            simp only [Act.put]
            refine d_take (f := 30) (v := ?_) 3 rfl (by kernel_rfl) (fun _ _ _ h => h) (Or.inl ⟨by rfl, ?_⟩) hS ?_
            rotate_left
            · intro wx hx
              obtain ⟨x0, x1, x2, x3, x4⟩ := hx
              first | (go_simp; done) | (go_simp; with_reducible rfl)
            simp only [Act.put]
            refine d_take (f := 30) (v := ?_) 4 rfl (by kernel_rfl) (fun _ _ _ h => h) (Or.inl ⟨by rfl, ?_⟩) hS ?_
            rotate_left
            · intro wx hx
              obtain ⟨x0, x1, x2, x3, x4⟩ := hx
              first | (go_simp; done) | (go_simp; with_reducible rfl)
            simp only [Act.put]
            refine d_take (f := 30) (v := ?_) 6 rfl (by kernel_rfl) (fun _ _ _ h => h) (Or.inl ⟨by rfl, ?_⟩) hS ?_
            rotate_left
            · intro wx hx
              obtain ⟨x0, x1, x2, x3, x4⟩ := hx
              first | (go_simp; done) | (go_simp; with_reducible rfl)
            simp only [Act.put]
            refine d_take (f := 30) (v := ?_) 7 rfl (by kernel_rfl) (fun _ _ _ h => h) (Or.inl ⟨by rfl, ?_⟩) hS ?_
            rotate_left
            · intro wx hx
              obtain ⟨x0, x1, x2, x3, x4⟩ := hx
              first | (go_simp; done) | (go_simp; with_reducible rfl)
            simp only [Act.put]
            refine d_take (f := 30) (v := ?_) 8 rfl (by kernel_rfl) (fun _ _ _ h => h) (Or.inl ⟨by rfl, ?_⟩) hS ?_
            rotate_left
            · intro wx hx
              obtain ⟨x0, x1, x2, x3, x4⟩ := hx
              first | (go_simp; done) | (go_simp; with_reducible rfl)
            simp only [Act.put]
            refine d_take (f := 30) (v := ?_) 9 rfl (by kernel_rfl) (fun _ _ _ h => h) (Or.inl ⟨by rfl, ?_⟩) hS ?_
            rotate_left
            · intro wx hx
              obtain ⟨x0, x1, x2, x3, x4⟩ := hx
              first | (go_simp; done) | (go_simp; with_reducible rfl)
            simp only [Act.put]
            refine d_take (f := 30) (v := ?_) 10 rfl (by kernel_rfl) (fun _ _ _ h => h) (Or.inl ⟨by rfl, ?_⟩) hS ?_
            rotate_left
            · intro wx hx
              obtain ⟨x0, x1, x2, x3, x4⟩ := hx
              first | (go_simp; done) | (go_simp; with_reducible rfl)
            simp only [Act.put]
            refine d_take (f := 30) (v := ?_) 11 rfl (by kernel_rfl) (fun _ _ _ h => h) (Or.inl ⟨by rfl, ?_⟩) hS ?_
            rotate_left
            · intro wx hx
              obtain ⟨x0, x1, x2, x3, x4⟩ := hx
              first | (go_simp; done) | (go_simp; with_reducible rfl)
            simp only [Act.put]
            refine d_take (f := 30) (v := ?_) 12 rfl (by kernel_rfl) (fun _ _ _ h => h) (Or.inl ⟨by rfl, ?_⟩) hS ?_
            rotate_left
            · intro wx hx
              obtain ⟨x0, x1, x2, x3, x4⟩ := hx
              first | (go_simp; done) | (go_simp; with_reducible rfl)
            simp only [Act.put]
            refine d_take (f := 30) (v := ?_) 13 rfl (by kernel_rfl) (fun _ _ _ h => h) (Or.inl ⟨by rfl, ?_⟩) hS ?_
            rotate_left
            · intro wx hx
              obtain ⟨x0, x1, x2, x3, x4⟩ := hx
              first | (go_simp; done) | (go_simp; with_reducible rfl)
            simp only [Act.put]
            refine d_take (f := 30) (v := ?_) 14 rfl (by kernel_rfl) (fun _ _ _ h => h) (Or.inl ⟨by rfl, ?_⟩) hS ?_
            rotate_left
            · intro wx hx
              obtain ⟨x0, x1, x2, x3, x4⟩ := hx
              first | (go_simp; done) | (go_simp; with_reducible rfl)
            simp only [Act.put]
            refine d_take (f := 30) (v := ?_) 15 rfl (by kernel_rfl) (fun _ _ _ h => h) (Or.inl ⟨by rfl, ?_⟩) hS ?_
            rotate_left
            · intro wx hx
              obtain ⟨x0, x1, x2, x3, x4⟩ := hx
              first | (go_simp; done) | (go_simp; with_reducible rfl)
            simp only [Act.put]
            refine d_take (f := 30) (v := ?_) 16 rfl (by kernel_rfl) (fun _ _ _ h => h) (Or.inl ⟨by rfl, ?_⟩) hS ?_
            rotate_left
            · intro wx hx
              obtain ⟨x0, x1, x2, x3, x4⟩ := hx
              first | (go_simp; done) | (go_simp; with_reducible rfl)
            simp only [Act.put]
            refine d_take (f := 30) (v := ?_) 17 rfl (by kernel_rfl) (fun _ _ _ h => h) (Or.inl ⟨by rfl, ?_⟩) hS ?_
            rotate_left
            · intro wx hx
              obtain ⟨x0, x1, x2, x3, x4⟩ := hx
              first | (go_simp; done) | (go_simp; with_reducible rfl)
            simp only [Act.put]
            refine d_take (f := 30) (v := ?_) 18 rfl (by kernel_rfl) (fun _ _ _ h => h) (Or.inl ⟨by rfl, ?_⟩) hS ?_
            rotate_left
            · intro wx hx
              obtain ⟨x0, x1, x2, x3, x4⟩ := hx
              first | (go_simp; done) | (go_simp; with_reducible rfl)
            simp only [Act.put]
            clear hS
            refine d_step 5 (by kernel_rfl) rfl (fun K hK => ?_)
            go_simp
            go_at_call 37
            refine (Hcp.out _ (show Below w.heap.size w w4.drew from by (repeat (first | (with_reducible exact Below.refl _ _) | (with_reducible refine below_setCell ?_ (by first | (simp; done) | (simp; omega) | omega)) | (with_reducible refine below_alloc _ ?_) | (with_reducible refine below_drewN ?_ _) | (with_reducible refine below_drew_step ?_) | (with_reducible assumption) | (with_reducible refine below_after (by assumption) ?_))))).mono ?_
            rintro e w5 ⟨v5, rfl, o5, k5⟩
            obtain ⟨p5, c5, rfl⟩ := o5.form
            have m5 : Below w4.heap.size w4 w5 := below_after k5 (by (repeat (first | (with_reducible exact Below.refl _ _) | (with_reducible refine below_setCell ?_ (by first | (simp; done) | (simp; omega) | omega)) | (with_reducible refine below_alloc _ ?_) | (with_reducible refine below_drewN ?_ _) | (with_reducible refine below_drew_step ?_) | (with_reducible assumption) | (with_reducible refine below_after (by assumption) ?_))))
            have b5 : Below w.heap.size w w5 := below_after m5 b4
            replace c0 := cell_step m5 c0
            replace c1 := cell_step m5 c1
            replace c2 := cell_step m5 c2
            replace r0 := cell_step m5 r0
            replace r1 := cell_step m5 r1
            replace r2 := cell_step m5 r2
            replace d0 := cell_step m5 d0
            replace dS := cell_step m5 dS
            replace t0 := cell_step m5 t0
            replace dL := cell_step m5 dL
            replace tS := cell_step m5 tS
            replace q0 := cell_step m5 q0
            replace q1 := cell_step m5 q1
            replace q2 := cell_step m5 q2
            replace e1 := cell_step m5 e1
            replace e2 := cell_step m5 e2
            replace g0 : w5.frozen? ⟨w.heap.size + 1, 0, none⟩ = false := (m5.frozen (p := ⟨w.heap.size + 1, 0, none⟩) z1).trans g0
            replace g1 : w5.frozen? ⟨w.heap.size + 1, 1, none⟩ = false := (m5.frozen (p := ⟨w.heap.size + 1, 1, none⟩) z1).trans g1
            replace g2 : w5.frozen? ⟨w.heap.size + 1, 2, none⟩ = false := (m5.frozen (p := ⟨w.heap.size + 1, 2, none⟩) z1).trans g2
            replace z1 : w.heap.size + 1 < w5.heap.size := Nat.lt_of_lt_of_le z1 m5.size
            have hS5 : w5.cell? ⟨w2.heap.size, 0, none⟩ = some (.slice (some ⟨g', o', none⟩) n c') ∧ w5.cell? ⟨w3.heap.size, 1, none⟩ = some (.slice pL nL cL) ∧ w5.cell? ⟨w3.heap.size, 2, none⟩ = some (.int .i64 (s1 : Int)) ∧ w5.cell? ⟨w.heap.size, 0, none⟩ = some (.slice (some ⟨g, o, none⟩) n c) ∧ w5.cell? ⟨g, o + m * 3 + 2, none⟩ = some (.int .i64 (s2 : Int)) := ⟨q0, e1, e2, c0, dS⟩
            refine hK.out _ _ (fun _ => hS5) ?_
            clear hK K
            try simp only [Act.put, List.setIfInBounds_toArray, List.set_cons_zero, List.set_cons_succ]
            refine d_takeY (v := ?_) 19 rfl (by kernel_rfl) (fun _ _ _ h => h) (Or.inl ⟨by rfl, ?_⟩) hS5 ?_
            rotate_left
            · intro wx _
              first | (go_simp; done) | (go_simp; with_reducible rfl)
            simp only [Act.put, List.setIfInBounds_toArray]
            clear hS5
            refine d_step 20 (by kernel_rfl) rfl (fun K hK => ?_)
            go_simp
            refine hK.out _ _ (fun h => by exact absurd h (by decide)) ?_
            clear hK K
            try simp only [Act.put, List.setIfInBounds_toArray, List.set_cons_zero, List.set_cons_succ]
            have m25 : Below w2.heap.size w2 w5 := m24.trans (m5.mono m24.size)
            obtain ⟨hfr, y0, y1, y2, hy0, hy1, hy2⟩ := own_cells3 O2.out m hml
            have hfr5 : ∀ i, w5.frozen? ⟨g', i, none⟩ = false := fun i => (m25.frozen (p := ⟨g', i, none⟩) hg2).trans (hfr i)
            replace hy0 := cell_step m25 hy0
            replace hy1 := cell_step m25 hy1
            replace hy2 := cell_step m25 hy2
            have hf0 := hfr5 (o' + m * 3)
            have hf1 := hfr5 (o' + m * 3 + 1)
            have hf2 := hfr5 (o' + m * 3 + 2)
            obtain ⟨fp5, hR5, hM5⟩ := o5
            have O6 := Lib.hid (own_copyAt O2.out m hml (w' := w5) hR5 hM5.nodup (fun b hb => by have h0 : w4.heap.size ≤ b := hM5.low b hb; have := m24.size; exact ⟨by omega, by omega⟩) hM5.free (fun b _ h2 => m25.block b h2) m25.size z hzI)
            clear hR5 hM5 hfr hfr5 k5 m25 m24 m5
            refine d_step 21 (by kernel_rfl) rfl (fun K hK => ?_)
            go_simp
            refine hK.out _ _ (fun h => by exact absurd h (by decide)) ?_
            clear hK K
            refine d_done (by kernel_rfl) ?_ _
            try simp only [Act.put, List.setIfInBounds_toArray, List.set_cons_zero, List.set_cons_succ]
            try rw [hzf]
            generalize hw6 : World.setCell _ _ _ = w6
            rw [hnL, hw6] at O6
            have hne1 : w.heap.size + 1 ≠ g' := by omega
            have hne3 : w2.heap.size ≠ g' := by omega
            have ot : ∀ b i, b ≠ g' → w6.cell? ⟨b, i, none⟩ = w5.cell? ⟨b, i, none⟩ := fun b i hb => by rw [← hw6, World.cell?_setCell_other _ _ _ _ (fun e => hb (congrArg Addr.block e).symm), World.cell?_setCell_other _ _ _ _ (fun e => hb (congrArg Addr.block e).symm), World.cell?_setCell_other _ _ _ _ (fun e => hb (congrArg Addr.block e).symm)]
            have of : ∀ p, w6.frozen? p = w5.frozen? p := fun p => by rw [← hw6, World.frozen?_setCell, World.frozen?_setCell, World.frozen?_setCell]
            have b6 : Below w.heap.size w w6 := by rw [← hw6]; exact below_setCell (below_setCell (below_setCell b5 (by simp; omega)) (by simp; omega)) (by simp; omega)
            rw [← ot _ _ hne1] at r0 r1 r2
            rw [← ot _ _ hne3] at q0 q1 q2
            rw [← of] at g0 g1 g2
            clear hw6 ot of hf0 hf1 hf2 hy0 hy1 hy2 b5 b4 b3
            go_wp2
            all_goals
              refine bodyPost_ret (v := .tuple #[.agg #[.slice (some ⟨g', o', none⟩) n c', .int .i64 term, .int .i64 (k : Int)], .bool true]) (by simp [results, Try.results15, go_sem, r0, r1, r2]) rfl ⟨.slice (some ⟨g', o', none⟩) n c', rfl, ?_, by (repeat (first | (with_reducible exact Below.refl _ _) | (with_reducible refine below_setCell ?_ (by first | (simp; done) | (simp; omega) | omega)) | (with_reducible refine below_alloc _ ?_) | (with_reducible refine below_drewN ?_ _) | (with_reducible assumption) | (with_reducible refine below_after (by assumption) ?_)))⟩
              rw [Hst.out]
              exact (own_weakR (O6.out.keep (Nat.le_refl _) (by (repeat (first | (with_reducible exact Keep.refl _ _) | (with_reducible refine keep_set ?_ (by first | (simp; done) | (simp; omega) | omega)) | (with_reducible refine keep_alloc _ ?_) | (with_reducible refine keep_drewN ?_ _) | (with_reducible assumption) | (with_reducible refine keep_below (by assumption) ?_)))))).mono (by omega)

end Go.Proofs.Ytfaefjdlfjhniaa


/- spec.CopyTo. Printed by mkcopyto.py. -/
namespace Go.Proofs.Ytfaefjdlfjhniaa
open Go.RowKit

/-- a drawn world keeps -/
theorem keep_drewS (B : Nat) (a b : World) (h : Keep B a b) : Keep B a b.drew := h.trans ⟨Nat.le_refl _, fun _ _ _ => rfl⟩

/-- spec.l1Most -/
theorem mostI_any (a b : Int) (w : World) : Calls Try.prog 82 #[.int .i64 a, .int .i64 b] w fun e w' => e = .returned (.int .i64 (max a b)) ∧ w = w' := by
  by_cases h : b < a
  · have hm : max a b = a := by omega
    rw [hm]
    clear hm
    go_enter Try.func82, Try.ntmps82
    go_wp2
    go_ret
    exact ⟨rfl, rfl⟩
  · have hm : max a b = b := by omega
    rw [hm]
    clear hm
    go_enter Try.func82, Try.ntmps82
    go_wp2
    go_ret
    exact ⟨rfl, rfl⟩

set_option maxRecDepth 100000 in
set_option maxHeartbeats 6400000 in
/-- spec.CopyTo -/
theorem copyToS_any (v : Value) (l : List ReplicaD) (term lead r : Int) (ht : I64 term) (hd : I64 lead) (hl : costReplicaS l ≤ 1048576) (w : World) (h : Rd Cod.replica w v l) :
    Calls Try.prog 66 #[.agg #[v, .int .i64 term, .int .i64 lead], .int .i64 r] w fun e w' => ∃ v', e = .returned (.tuple #[.agg #[v', .int .i64 (pickG (copyB l term lead r) ⟨copyL l lead r, term, lead⟩).Term, .int .i64 (pickG (copyB l term lead r) ⟨copyL l lead r, term, lead⟩).Lead], .bool (copyB l term lead r)]) ∧
      Own Cod.replica w' w.heap.size v' (pickG (copyB l term lead r) ⟨copyL l lead r, term, lead⟩).Reps ∧ Below w.heap.size w w' := by
  have Hup := Lib.hid (fun (W : World) (k : Below w.heap.size w W) => l9Up_any v l term lead r true ht hd hl W (h.below k))
  have Ho := Lib.hid (fun (W : World) (k : Below w.heap.size w W) => l9Own_any v l term lead hl W (h.below k))
  have Hce := Lib.hid (fun (k : Nat) (hk : k < l.length) => rep_le hl hk)
  have Hm : Hid (upIs l r true = true → ∃ m : Nat, r = (m : Int) ∧ m < l.length) := Lib.hid (fun hu => by
    by_cases h0 : inB r 0 ((l.length : Int) - 1) = true
    · have := inB_iff.1 h0
      exact ⟨r.toNat, by omega, by omega⟩
    · rw [upIs_out (by simpa using h0)] at hu
      cases hu)
  obtain ⟨p, c, rfl, _, _, rr⟩ := h.form
  have RR := Lib.hid rr
  obtain ⟨n, hn⟩ : ∃ n : Nat, l.length = n := ⟨_, rfl⟩
  have Hn := Lib.hid hn
  have hnb : (n : Int) ≤ 1048576 := by unfold costReplicaS at hl; omega
  have Hld := Lib.hid (fun (hg : goodGB l term lead = true) => good_lead hg)
  have Hsu := Lib.hid (fun (hg : goodGB l term lead = true) (k : Nat) (hk : k < l.length) => good_sure hg (List.getElem_mem hk))
  have HE : Hid (copyB l term lead r = ((goodGB l term lead && upIs l r true) && (!decide (lead < 0) && !(lead == r)))) := Lib.hid rfl
  have HgU : Hid ((goodGB l term lead && upIs l r true) = true → goodGB l term lead = true ∧ upIs l r true = true) := Lib.hid (fun h => Bool.and_eq_true_iff.1 h)
  rw [hn] at Hup Ho ⊢
  clear hn hl h rr
  generalize copyB l term lead r = Q at *
  generalize (goodGB l term lead && upIs l r true) = q at *
  cases q
  · obtain rfl : Q = false := by rw [HE.out, Bool.false_and]
    clear HE HgU
    dsimp only [pickG]
    go_enter Try.func66, Try.ntmps66
    go_wp2_with fail
    refine (Hup.out _ (by (repeat (first | (with_reducible exact Below.refl _ _) | (with_reducible refine below_setCell ?_ (by first | (simp; done) | (simp; omega) | omega)) | (with_reducible refine below_alloc _ ?_) | (with_reducible refine below_drewN ?_ _) | (with_reducible assumption) | (with_reducible refine below_after (by assumption) ?_))))).mono ?_
    rintro e w1 ⟨rfl, k1⟩
    have b1 : Below w.heap.size w w1 := below_after k1 (by (repeat (first | (with_reducible exact Below.refl _ _) | (with_reducible refine below_setCell ?_ (by first | (simp; done) | (simp; omega) | omega)) | (with_reducible refine below_alloc _ ?_) | (with_reducible refine below_drewN ?_ _) | (with_reducible assumption) | (with_reducible refine below_after (by assumption) ?_))))
    have hx1 := bcell k1
    have c0 : w1.cell? ⟨w.heap.size, 0, none⟩ = some (.slice p n c) := by rw [hx1.1 _ _ (by first | (simp; done) | (simp; omega))]; simp [go_sem]
    have c1 : w1.cell? ⟨w.heap.size, 1, none⟩ = some (.int .i64 term) := by rw [hx1.1 _ _ (by first | (simp; done) | (simp; omega))]; simp [go_sem]
    have c2 : w1.cell? ⟨w.heap.size, 2, none⟩ = some (.int .i64 lead) := by rw [hx1.1 _ _ (by first | (simp; done) | (simp; omega))]; simp [go_sem]
    have r0 : w1.cell? ⟨w.heap.size + 1, 0, none⟩ = some (.slice none 0 0) := by rw [hx1.1 _ _ (by first | (simp; done) | (simp; omega))]; simp [go_sem]
    have r1 : w1.cell? ⟨w.heap.size + 1, 1, none⟩ = some (.int .i64 0) := by rw [hx1.1 _ _ (by first | (simp; done) | (simp; omega))]; simp [go_sem]
    have r2 : w1.cell? ⟨w.heap.size + 1, 2, none⟩ = some (.int .i64 0) := by rw [hx1.1 _ _ (by first | (simp; done) | (simp; omega))]; simp [go_sem]
    have g0 : w1.frozen? ⟨w.heap.size + 1, 0, none⟩ = false := by rw [hx1.2 _ _ (by first | (simp; done) | (simp; omega))]; simp [go_sem]
    have g1 : w1.frozen? ⟨w.heap.size + 1, 1, none⟩ = false := by rw [hx1.2 _ _ (by first | (simp; done) | (simp; omega))]; simp [go_sem]
    have g2 : w1.frozen? ⟨w.heap.size + 1, 2, none⟩ = false := by rw [hx1.2 _ _ (by first | (simp; done) | (simp; omega))]; simp [go_sem]
    have z1 : w.heap.size + 1 < w1.heap.size := by have := k1.size; simp at this; omega
    clear k1 hx1
    go_wp2
    refine bodyPost_ret (v := .tuple #[.agg #[.slice none 0 0, .int .i64 0, .int .i64 0], .bool false]) (by simp [results, Try.results66, go_sem, r0, r1, r2]) rfl ⟨_, rfl, own_nil _ _ _, by (repeat (first | (with_reducible exact Below.refl _ _) | (with_reducible refine below_setCell ?_ (by first | (simp; done) | (simp; omega) | omega)) | (with_reducible refine below_alloc _ ?_) | (with_reducible refine below_drewN ?_ _) | (with_reducible assumption) | (with_reducible refine below_after (by assumption) ?_)))⟩
  · obtain ⟨hgood, hu⟩ := HgU.out rfl
    obtain ⟨m, rfl, hml⟩ := Hm.out hu
    clear Hm HgU hu
    rw [Bool.true_and] at HE
    by_cases hneg : lead < 0
    · obtain rfl : Q = false := by rw [HE.out, decide_eq_true hneg, Bool.not_true, Bool.false_and]
      clear HE hgood
      dsimp only [pickG]
      go_enter Try.func66, Try.ntmps66
      go_wp2_with fail
      refine (Hup.out _ (by (repeat (first | (with_reducible exact Below.refl _ _) | (with_reducible refine below_setCell ?_ (by first | (simp; done) | (simp; omega) | omega)) | (with_reducible refine below_alloc _ ?_) | (with_reducible refine below_drewN ?_ _) | (with_reducible assumption) | (with_reducible refine below_after (by assumption) ?_))))).mono ?_
      rintro e w1 ⟨rfl, k1⟩
      have b1 : Below w.heap.size w w1 := below_after k1 (by (repeat (first | (with_reducible exact Below.refl _ _) | (with_reducible refine below_setCell ?_ (by first | (simp; done) | (simp; omega) | omega)) | (with_reducible refine below_alloc _ ?_) | (with_reducible refine below_drewN ?_ _) | (with_reducible assumption) | (with_reducible refine below_after (by assumption) ?_))))
      have hx1 := bcell k1
      have c0 : w1.cell? ⟨w.heap.size, 0, none⟩ = some (.slice p n c) := by rw [hx1.1 _ _ (by first | (simp; done) | (simp; omega))]; simp [go_sem]
      have c1 : w1.cell? ⟨w.heap.size, 1, none⟩ = some (.int .i64 term) := by rw [hx1.1 _ _ (by first | (simp; done) | (simp; omega))]; simp [go_sem]
      have c2 : w1.cell? ⟨w.heap.size, 2, none⟩ = some (.int .i64 lead) := by rw [hx1.1 _ _ (by first | (simp; done) | (simp; omega))]; simp [go_sem]
      have r0 : w1.cell? ⟨w.heap.size + 1, 0, none⟩ = some (.slice none 0 0) := by rw [hx1.1 _ _ (by first | (simp; done) | (simp; omega))]; simp [go_sem]
      have r1 : w1.cell? ⟨w.heap.size + 1, 1, none⟩ = some (.int .i64 0) := by rw [hx1.1 _ _ (by first | (simp; done) | (simp; omega))]; simp [go_sem]
      have r2 : w1.cell? ⟨w.heap.size + 1, 2, none⟩ = some (.int .i64 0) := by rw [hx1.1 _ _ (by first | (simp; done) | (simp; omega))]; simp [go_sem]
      have g0 : w1.frozen? ⟨w.heap.size + 1, 0, none⟩ = false := by rw [hx1.2 _ _ (by first | (simp; done) | (simp; omega))]; simp [go_sem]
      have g1 : w1.frozen? ⟨w.heap.size + 1, 1, none⟩ = false := by rw [hx1.2 _ _ (by first | (simp; done) | (simp; omega))]; simp [go_sem]
      have g2 : w1.frozen? ⟨w.heap.size + 1, 2, none⟩ = false := by rw [hx1.2 _ _ (by first | (simp; done) | (simp; omega))]; simp [go_sem]
      have z1 : w.heap.size + 1 < w1.heap.size := by have := k1.size; simp at this; omega
      clear k1 hx1
      go_wp2
      refine bodyPost_ret (v := .tuple #[.agg #[.slice none 0 0, .int .i64 0, .int .i64 0], .bool false]) (by simp [results, Try.results66, go_sem, r0, r1, r2]) rfl ⟨_, rfl, own_nil _ _ _, by (repeat (first | (with_reducible exact Below.refl _ _) | (with_reducible refine below_setCell ?_ (by first | (simp; done) | (simp; omega) | omega)) | (with_reducible refine below_alloc _ ?_) | (with_reducible refine below_drewN ?_ _) | (with_reducible assumption) | (with_reducible refine below_after (by assumption) ?_)))⟩
    · obtain ⟨k, rfl, hkl, h60⟩ := Hld.out hgood hneg
      have hkn : (k : Int) < (n : Int) := by have := Hn.out; omega
      have hk0 : (0 : Int) ≤ (k : Int) := by omega
      have hmn : (m : Int) < (n : Int) := by have := Hn.out; omega
      have hm0 : (0 : Int) ≤ (m : Int) := by omega
      have hnd : decide ((k : Int) < 0) = false := decide_eq_false (by omega)
      rw [hnd, Bool.not_false, Bool.true_and] at HE
      by_cases hrl : k = m
      · have hrl2 : ((k : Int) == (m : Int)) = true := by simp; omega
        obtain rfl : Q = false := by rw [HE.out, hrl2]; rfl
        clear HE hgood hrl
        dsimp only [pickG]
        go_enter Try.func66, Try.ntmps66
        go_wp2_with fail
        refine (Hup.out _ (by (repeat (first | (with_reducible exact Below.refl _ _) | (with_reducible refine below_setCell ?_ (by first | (simp; done) | (simp; omega) | omega)) | (with_reducible refine below_alloc _ ?_) | (with_reducible refine below_drewN ?_ _) | (with_reducible assumption) | (with_reducible refine below_after (by assumption) ?_))))).mono ?_
        rintro e w1 ⟨rfl, k1⟩
        have b1 : Below w.heap.size w w1 := below_after k1 (by (repeat (first | (with_reducible exact Below.refl _ _) | (with_reducible refine below_setCell ?_ (by first | (simp; done) | (simp; omega) | omega)) | (with_reducible refine below_alloc _ ?_) | (with_reducible refine below_drewN ?_ _) | (with_reducible assumption) | (with_reducible refine below_after (by assumption) ?_))))
        have hx1 := bcell k1
        have c0 : w1.cell? ⟨w.heap.size, 0, none⟩ = some (.slice p n c) := by rw [hx1.1 _ _ (by first | (simp; done) | (simp; omega))]; simp [go_sem]
        have c1 : w1.cell? ⟨w.heap.size, 1, none⟩ = some (.int .i64 term) := by rw [hx1.1 _ _ (by first | (simp; done) | (simp; omega))]; simp [go_sem]
        have c2 : w1.cell? ⟨w.heap.size, 2, none⟩ = some (.int .i64 (k : Int)) := by rw [hx1.1 _ _ (by first | (simp; done) | (simp; omega))]; simp [go_sem]
        have r0 : w1.cell? ⟨w.heap.size + 1, 0, none⟩ = some (.slice none 0 0) := by rw [hx1.1 _ _ (by first | (simp; done) | (simp; omega))]; simp [go_sem]
        have r1 : w1.cell? ⟨w.heap.size + 1, 1, none⟩ = some (.int .i64 0) := by rw [hx1.1 _ _ (by first | (simp; done) | (simp; omega))]; simp [go_sem]
        have r2 : w1.cell? ⟨w.heap.size + 1, 2, none⟩ = some (.int .i64 0) := by rw [hx1.1 _ _ (by first | (simp; done) | (simp; omega))]; simp [go_sem]
        have g0 : w1.frozen? ⟨w.heap.size + 1, 0, none⟩ = false := by rw [hx1.2 _ _ (by first | (simp; done) | (simp; omega))]; simp [go_sem]
        have g1 : w1.frozen? ⟨w.heap.size + 1, 1, none⟩ = false := by rw [hx1.2 _ _ (by first | (simp; done) | (simp; omega))]; simp [go_sem]
        have g2 : w1.frozen? ⟨w.heap.size + 1, 2, none⟩ = false := by rw [hx1.2 _ _ (by first | (simp; done) | (simp; omega))]; simp [go_sem]
        have z1 : w.heap.size + 1 < w1.heap.size := by have := k1.size; simp at this; omega
        clear k1 hx1
        go_wp2
        refine bodyPost_ret (v := .tuple #[.agg #[.slice none 0 0, .int .i64 0, .int .i64 0], .bool false]) (by simp [results, Try.results66, go_sem, r0, r1, r2]) rfl ⟨_, rfl, own_nil _ _ _, by (repeat (first | (with_reducible exact Below.refl _ _) | (with_reducible refine below_setCell ?_ (by first | (simp; done) | (simp; omega) | omega)) | (with_reducible refine below_alloc _ ?_) | (with_reducible refine below_drewN ?_ _) | (with_reducible assumption) | (with_reducible refine below_after (by assumption) ?_)))⟩
      · have hrl2 : ((k : Int) == (m : Int)) = false := by simp; omega
        obtain rfl : Q = true := by rw [HE.out, hrl2]; rfl
        clear HE hrl
        dsimp only [pickG]
        have Hst := Lib.hid (copyL_nat hkl hml)
        obtain ⟨g, o, rfl, hg, hc⟩ := RR.out (by omega)
        obtain ⟨_, _, dS, zS⟩ := at_replica (hc m hml)
        obtain ⟨_, ⟨vL, dL, rL⟩, tS, zT⟩ := at_replica (hc k hkl)
        rw [show o + m * Cod.replica.size = o + m * 3 from rfl] at dS
        rw [show o + k * Cod.replica.size = o + k * 3 from rfl] at dL tS
        obtain ⟨s1, hs1, hs1l⟩ := Hsu.out hgood k hkl
        obtain ⟨s2, hs2, hs2l⟩ := Hsu.out hgood m hml
        rw [hs1] at tS
        rw [hs2] at dS
        have Hcp := Lib.hid (fun (W : World) (b : Below w.heap.size w W) => l9OwnLog_r vL l[k].Log (Hce.out k hkl) W (rL.below b))
        rw [hs1, hs2] at Hst
        obtain ⟨pL, cL, rfl, -⟩ := rL.form
        have hLl : (l[k].Log.length : Int) ≤ 60 := by omega
        have hsl : (s1 : Int) ≤ 60 := by omega
        have Hs2 : Hid ((s2 : Int) ≤ 1048576) := Lib.hid (by have := Hce.out m hml; unfold costEntryS at this; omega)
        clear hc rL RR hs1 hs2 hs1l hs2l zS zT Hsu Hld h60 hgood
        have hs2b := Hs2.out
        generalize l[k].Log = L at *
        obtain ⟨z, hz⟩ : ∃ z : Int, min (max (s1 : Int) (s2 : Int)) (L.length : Int) = z := ⟨_, rfl⟩
        have hzI : I64 z := by unfold I64; omega
        obtain ⟨y, hy⟩ : ∃ y : Int, max (s2 : Int) (s1 : Int) = y := ⟨_, rfl⟩
        have hzy : min (L.length : Int) y = z := by omega
        rw [hz] at Hst
        generalize hnL : L.length = nL at *
        have Hmo : Hid (∀ W, Calls Try.prog 82 #[.int .i64 (s2 : Int), .int .i64 (s1 : Int)] W fun e w' => e = .returned (.int .i64 y) ∧ W = w') := Lib.hid (fun W => hy ▸ mostI_any s2 s1 W)
        have Hle : Hid (∀ W, Calls Try.prog 81 #[.int .i64 (nL : Int), .int .i64 y] W fun e w' => e = .returned (.int .i64 z) ∧ W = w') := Lib.hid (fun W => hzy ▸ leastI_any nL y W)
        clear hz hy hzy
        go_enter Try.func66, Try.ntmps66
        go_wp2_with fail
        refine (Hup.out _ (by (repeat (first | (with_reducible exact Below.refl _ _) | (with_reducible refine below_setCell ?_ (by first | (simp; done) | (simp; omega) | omega)) | (with_reducible refine below_alloc _ ?_) | (with_reducible refine below_drewN ?_ _) | (with_reducible assumption) | (with_reducible refine below_after (by assumption) ?_))))).mono ?_
        rintro e w1 ⟨rfl, k1⟩
        have b1 : Below w.heap.size w w1 := below_after k1 (by (repeat (first | (with_reducible exact Below.refl _ _) | (with_reducible refine below_setCell ?_ (by first | (simp; done) | (simp; omega) | omega)) | (with_reducible refine below_alloc _ ?_) | (with_reducible refine below_drewN ?_ _) | (with_reducible assumption) | (with_reducible refine below_after (by assumption) ?_))))
        have hx1 := bcell k1
        have c0 : w1.cell? ⟨w.heap.size, 0, none⟩ = some (.slice (some ⟨g, o, none⟩) n c) := by rw [hx1.1 _ _ (by first | (simp; done) | (simp; omega))]; simp [go_sem]
        have c1 : w1.cell? ⟨w.heap.size, 1, none⟩ = some (.int .i64 term) := by rw [hx1.1 _ _ (by first | (simp; done) | (simp; omega))]; simp [go_sem]
        have c2 : w1.cell? ⟨w.heap.size, 2, none⟩ = some (.int .i64 (k : Int)) := by rw [hx1.1 _ _ (by first | (simp; done) | (simp; omega))]; simp [go_sem]
        have r0 : w1.cell? ⟨w.heap.size + 1, 0, none⟩ = some (.slice none 0 0) := by rw [hx1.1 _ _ (by first | (simp; done) | (simp; omega))]; simp [go_sem]
        have r1 : w1.cell? ⟨w.heap.size + 1, 1, none⟩ = some (.int .i64 0) := by rw [hx1.1 _ _ (by first | (simp; done) | (simp; omega))]; simp [go_sem]
        have r2 : w1.cell? ⟨w.heap.size + 1, 2, none⟩ = some (.int .i64 0) := by rw [hx1.1 _ _ (by first | (simp; done) | (simp; omega))]; simp [go_sem]
        have g0 : w1.frozen? ⟨w.heap.size + 1, 0, none⟩ = false := by rw [hx1.2 _ _ (by first | (simp; done) | (simp; omega))]; simp [go_sem]
        have g1 : w1.frozen? ⟨w.heap.size + 1, 1, none⟩ = false := by rw [hx1.2 _ _ (by first | (simp; done) | (simp; omega))]; simp [go_sem]
        have g2 : w1.frozen? ⟨w.heap.size + 1, 2, none⟩ = false := by rw [hx1.2 _ _ (by first | (simp; done) | (simp; omega))]; simp [go_sem]
        have z1 : w.heap.size + 1 < w1.heap.size := by have := k1.size; simp at this; omega
        clear k1 hx1
        replace dS := cell_step b1 dS
        replace dL := cell_step b1 dL
        replace tS := cell_step b1 tS
        have zi : w.heap.size + 1 < w1.heap.size := z1
        go_wp2_with fail
        refine (Ho.out _ b1).mono ?_
        rintro e w2 ⟨v', rfl, o2, k2⟩
        obtain ⟨p', c', rfl⟩ := o2.form
        obtain ⟨g', o', rfl, hg1, hg2, hgf, hgc⟩ := own_atR o2 m hml
        have b2 : Below w.heap.size w w2 := below_after k2 b1
        replace c0 := cell_step k2 c0
        replace c1 := cell_step k2 c1
        replace c2 := cell_step k2 c2
        replace r0 := cell_step k2 r0
        replace r1 := cell_step k2 r1
        replace r2 := cell_step k2 r2
        replace dS := cell_step k2 dS
        replace dL := cell_step k2 dL
        replace tS := cell_step k2 tS
        replace g0 : w2.frozen? ⟨w.heap.size + 1, 0, none⟩ = false := (k2.frozen (p := ⟨w.heap.size + 1, 0, none⟩) z1).trans g0
        replace g1 : w2.frozen? ⟨w.heap.size + 1, 1, none⟩ = false := (k2.frozen (p := ⟨w.heap.size + 1, 1, none⟩) z1).trans g1
        replace g2 : w2.frozen? ⟨w.heap.size + 1, 2, none⟩ = false := (k2.frozen (p := ⟨w.heap.size + 1, 2, none⟩) z1).trans g2
        replace z1 : w.heap.size + 1 < w2.heap.size := Nat.lt_of_lt_of_le z1 k2.size
        have z2 : w1.heap.size ≤ w2.heap.size := k2.size
        have hn3 : l.length = n := Hn.out
        rw [hn3] at o2 ⊢
        have O2 := Lib.hid o2
        clear o2 k2
        have zz0 : w.heap.size < w2.heap.size := by omega
        have zz1 : w.heap.size + 1 < w2.heap.size := by omega
        have zzg : g < w2.heap.size := by omega
        go_upto_region 4 with fail
        generalize hw3 : World.alloc _ _ = w3
        have b3 : Below w.heap.size w w3 := by rw [← hw3]; (repeat (first | (with_reducible exact Below.refl _ _) | (with_reducible refine below_setCell ?_ (by first | (simp; done) | (simp; omega) | omega)) | (with_reducible refine below_alloc _ ?_) | (with_reducible refine below_drewN ?_ _) | (with_reducible assumption) | (with_reducible refine below_after (by assumption) ?_)))
        have q0 : w3.cell? ⟨w2.heap.size, 0, none⟩ = some (.slice (some ⟨g', o', none⟩) n c') := by rw [← hw3]; simp [go_sem]
        have q1 : w3.cell? ⟨w2.heap.size, 1, none⟩ = some (.int .i64 term) := by rw [← hw3]; simp [go_sem]
        have q2 : w3.cell? ⟨w2.heap.size, 2, none⟩ = some (.int .i64 (k : Int)) := by rw [← hw3]; simp [go_sem]
        have z3 : w2.heap.size < w3.heap.size := by rw [← hw3]; simp
        have m3 : Below w2.heap.size w2 w3 := by rw [← hw3]; exact below_new _ _
        replace c0 := cell_step m3 c0
        replace c1 := cell_step m3 c1
        replace c2 := cell_step m3 c2
        replace r0 := cell_step m3 r0
        replace r1 := cell_step m3 r1
        replace r2 := cell_step m3 r2
        replace dS := cell_step m3 dS
        replace dL := cell_step m3 dL
        replace tS := cell_step m3 tS
        replace g0 : w3.frozen? ⟨w.heap.size + 1, 0, none⟩ = false := (m3.frozen (p := ⟨w.heap.size + 1, 0, none⟩) z1).trans g0
        replace g1 : w3.frozen? ⟨w.heap.size + 1, 1, none⟩ = false := (m3.frozen (p := ⟨w.heap.size + 1, 1, none⟩) z1).trans g1
        replace g2 : w3.frozen? ⟨w.heap.size + 1, 2, none⟩ = false := (m3.frozen (p := ⟨w.heap.size + 1, 2, none⟩) z1).trans g2
        replace z1 : w.heap.size + 1 < w3.heap.size := Nat.lt_of_lt_of_le z1 m3.size
        clear hw3
        go_wp2_with fail
        refine (Hcp.out _ b3).mono ?_
        rintro e w4 ⟨v5, rfl, o5, k4⟩
        obtain ⟨p5, c5, rfl⟩ := o5.form
        have b4 : Below w.heap.size w w4 := below_after k4 b3
        replace c0 := cell_step k4 c0
        replace c1 := cell_step k4 c1
        replace c2 := cell_step k4 c2
        replace r0 := cell_step k4 r0
        replace r1 := cell_step k4 r1
        replace r2 := cell_step k4 r2
        replace dS := cell_step k4 dS
        replace dL := cell_step k4 dL
        replace tS := cell_step k4 tS
        replace q0 := cell_step k4 q0
        replace q1 := cell_step k4 q1
        replace q2 := cell_step k4 q2
        replace g0 : w4.frozen? ⟨w.heap.size + 1, 0, none⟩ = false := (k4.frozen (p := ⟨w.heap.size + 1, 0, none⟩) z1).trans g0
        replace g1 : w4.frozen? ⟨w.heap.size + 1, 1, none⟩ = false := (k4.frozen (p := ⟨w.heap.size + 1, 1, none⟩) z1).trans g1
        replace g2 : w4.frozen? ⟨w.heap.size + 1, 2, none⟩ = false := (k4.frozen (p := ⟨w.heap.size + 1, 2, none⟩) z1).trans g2
        replace z1 : w.heap.size + 1 < w4.heap.size := Nat.lt_of_lt_of_le z1 k4.size
        have m24 : Below w2.heap.size w2 w4 := m3.trans (k4.mono m3.size)
        have z4 : w3.heap.size ≤ w4.heap.size := k4.size
        have zz2 : w.heap.size < w4.heap.size := by omega
        have zz3 : g < w4.heap.size := by omega
        have zz4 : w2.heap.size < w4.heap.size := by omega
        obtain ⟨hfr, y0, y1, y2, hy0, hy1, hy2⟩ := own_cells3 O2.out m hml
        have hfr5 : ∀ i, w4.frozen? ⟨g', i, none⟩ = false := fun i => (m24.frozen (p := ⟨g', i, none⟩) hg2).trans (hfr i)
        replace hy0 := cell_step m24 hy0
        replace hy1 := cell_step m24 hy1
        replace hy2 := cell_step m24 hy2
        have hf0 := hfr5 (o' + m * 3)
        have hf1 := hfr5 (o' + m * 3 + 1)
        have hf2 := hfr5 (o' + m * 3 + 2)
        obtain ⟨fp5, hR5, hM5⟩ := o5
        have O6 := Lib.hid (own_copyAt O2.out m hml (w' := w4) hR5 hM5.nodup (fun b hb => by have h0 : w3.heap.size ≤ b := hM5.low b hb; exact ⟨by omega, by omega⟩) hM5.free (fun b _ h2 => m24.block b h2) m24.size z hzI)
        clear hR5 hM5 hfr hfr5 m3 k4
        go_upto_region 5 with fail
        refine wp_region_d 22 (fun w' => w'.cell? ⟨w2.heap.size, 0, none⟩ = some (.slice (some ⟨g', o', none⟩) n c') ∧ w'.cell? ⟨w.heap.size, 0, none⟩ = some (.slice (some ⟨g, o, none⟩) n c) ∧ w'.cell? ⟨w.heap.size, 2, none⟩ = some (.int .i64 (k : Int)) ∧ w'.cell? ⟨g, o + m * 3 + 2, none⟩ = some (.int .i64 (s2 : Int)) ∧ w'.cell? ⟨g, o + k * 3 + 2, none⟩ = some (.int .i64 (s1 : Int))) (by kernel_rfl) ?_
        have hS : w4.drew.cell? ⟨w2.heap.size, 0, none⟩ = some (.slice (some ⟨g', o', none⟩) n c') ∧ w4.drew.cell? ⟨w.heap.size, 0, none⟩ = some (.slice (some ⟨g, o, none⟩) n c) ∧ w4.drew.cell? ⟨w.heap.size, 2, none⟩ = some (.int .i64 (k : Int)) ∧ w4.drew.cell? ⟨g, o + m * 3 + 2, none⟩ = some (.int .i64 (s2 : Int)) ∧ w4.drew.cell? ⟨g, o + k * 3 + 2, none⟩ = some (.int .i64 (s1 : Int)) := ⟨q0, c0, c2, dS, tS⟩
        refine d_take (f := 30) (v := ?_) 0 rfl (by kernel_rfl) (fun _ _ _ h => h) (Or.inl ⟨by rfl, ?_⟩) hS ?_
        rotate_left
        · intro wx hx
          obtain ⟨x0, x1, x2, x3, x4⟩ := hx
          first | (go_simp; done) | (go_simp; with_reducible rfl)
        simp only [Act.put, List.setIfInBounds_toArray]
        refine d_take (f := 30) (v := ?_) 1 rfl (by kernel_rfl) (fun _ _ _ h => h) (Or.inl ⟨by rfl, ?_⟩) hS ?_
        rotate_left
        · intro wx hx
          obtain ⟨x0, x1, x2, x3, x4⟩ := hx
          first | (go_simp; done) | (go_simp; with_reducible rfl)
        simp only [Act.put]
        refine d_take (f := 30) (v := ?_) 2 rfl (by kernel_rfl) (fun _ _ _ h => h) (Or.inl ⟨by rfl, ?_⟩) hS ?_
        rotate_left
        · intro wx hx
          obtain ⟨x0, x1, x2, x3, x4⟩ := hx
          first | (go_simp; done) | (go_simp; with_reducible rfl)
        simp only [Act.put]
        refine d_take (f := 30) (v := ?_) 3 rfl (by kernel_rfl) (fun _ _ _ h => h) (Or.inl ⟨by rfl, ?_⟩) hS ?_
        rotate_left
        · intro wx hx
          obtain ⟨x0, x1, x2, x3, x4⟩ := hx
          first | (go_simp; done) | (go_simp; with_reducible rfl)
        simp only [Act.put]
        refine d_take (f := 30) (v := ?_) 4 rfl (by kernel_rfl) (fun _ _ _ h => h) (Or.inl ⟨by rfl, ?_⟩) hS ?_
        rotate_left
        · intro wx hx
          obtain ⟨x0, x1, x2, x3, x4⟩ := hx
          first | (go_simp; done) | (go_simp; with_reducible rfl)
        simp only [Act.put]
        refine d_take (f := 30) (v := ?_) 5 rfl (by kernel_rfl) (fun _ _ _ h => h) (Or.inl ⟨by rfl, ?_⟩) hS ?_
        rotate_left
        · intro wx hx
          obtain ⟨x0, x1, x2, x3, x4⟩ := hx
          first | (go_simp; done) | (go_simp; with_reducible rfl)
        simp only [Act.put]
        refine d_take (f := 30) (v := ?_) 6 rfl (by kernel_rfl) (fun _ _ _ h => h) (Or.inl ⟨by rfl, ?_⟩) hS ?_
        rotate_left
        · intro wx hx
          obtain ⟨x0, x1, x2, x3, x4⟩ := hx
          first | (go_simp; done) | (go_simp; with_reducible rfl)
        simp only [Act.put]
        refine d_take (f := 30) (v := ?_) 7 rfl (by kernel_rfl) (fun _ _ _ h => h) (Or.inl ⟨by rfl, ?_⟩) hS ?_
        rotate_left
        · intro wx hx
          obtain ⟨x0, x1, x2, x3, x4⟩ := hx
          first | (go_simp; done) | (go_simp; with_reducible rfl)
        simp only [Act.put]
        refine d_take (f := 30) (v := ?_) 8 rfl (by kernel_rfl) (fun _ _ _ h => h) (Or.inl ⟨by rfl, ?_⟩) hS ?_
        rotate_left
        · intro wx hx
          obtain ⟨x0, x1, x2, x3, x4⟩ := hx
          first | (go_simp; done) | (go_simp; with_reducible rfl)
        simp only [Act.put]
        refine d_take (f := 30) (v := ?_) 9 rfl (by kernel_rfl) (fun _ _ _ h => h) (Or.inl ⟨by rfl, ?_⟩) hS ?_
        rotate_left
        · intro wx hx
          obtain ⟨x0, x1, x2, x3, x4⟩ := hx
          first | (go_simp; done) | (go_simp; with_reducible rfl)
        simp only [Act.put]
        refine d_take (f := 30) (v := ?_) 10 rfl (by kernel_rfl) (fun _ _ _ h => h) (Or.inl ⟨by rfl, ?_⟩) hS ?_
        rotate_left
        · intro wx hx
          obtain ⟨x0, x1, x2, x3, x4⟩ := hx
          first | (go_simp; done) | (go_simp; with_reducible rfl)
        simp only [Act.put]
        refine d_take (f := 30) (v := ?_) 11 rfl (by kernel_rfl) (fun _ _ _ h => h) (Or.inl ⟨by rfl, ?_⟩) hS ?_
        rotate_left
        · intro wx hx
          obtain ⟨x0, x1, x2, x3, x4⟩ := hx
          first | (go_simp; done) | (go_simp; with_reducible rfl)
        simp only [Act.put]
        refine d_take (f := 30) (v := ?_) 12 rfl (by kernel_rfl) (fun _ _ _ h => h) (Or.inl ⟨by rfl, ?_⟩) hS ?_
        rotate_left
        · intro wx hx
          obtain ⟨x0, x1, x2, x3, x4⟩ := hx
          first | (go_simp; done) | (go_simp; with_reducible rfl)
        simp only [Act.put]
        refine d_take (f := 30) (v := ?_) 13 rfl (by kernel_rfl) (fun _ _ _ h => h) (Or.inl ⟨by rfl, ?_⟩) hS ?_
        rotate_left
        · intro wx hx
          obtain ⟨x0, x1, x2, x3, x4⟩ := hx
          first | (go_simp; done) | (go_simp; with_reducible rfl)
        simp only [Act.put]
        refine d_take (f := 30) (v := ?_) 14 rfl (by kernel_rfl) (fun _ _ _ h => h) (Or.inl ⟨by rfl, ?_⟩) hS ?_
        rotate_left
        · intro wx hx
          obtain ⟨x0, x1, x2, x3, x4⟩ := hx
          first | (go_simp; done) | (go_simp; with_reducible rfl)
        simp only [Act.put]
        refine d_take (f := 30) (v := ?_) 15 rfl (by kernel_rfl) (fun _ _ _ h => h) (Or.inl ⟨by rfl, ?_⟩) hS ?_
        rotate_left
        · intro wx hx
          obtain ⟨x0, x1, x2, x3, x4⟩ := hx
          first | (go_simp; done) | (go_simp; with_reducible rfl)
        simp only [Act.put]
        refine d_take (f := 30) (v := ?_) 16 rfl (by kernel_rfl) (fun _ _ _ h => h) (Or.inl ⟨by rfl, ?_⟩) hS ?_
        rotate_left
        · intro wx hx
          obtain ⟨x0, x1, x2, x3, x4⟩ := hx
          first | (go_simp; done) | (go_simp; with_reducible rfl)
        simp only [Act.put]
        refine d_take (f := 30) (v := ?_) 17 rfl (by kernel_rfl) (fun _ _ _ h => h) (Or.inl ⟨by rfl, ?_⟩) hS ?_
        rotate_left
        · intro wx hx
          obtain ⟨x0, x1, x2, x3, x4⟩ := hx
          first | (go_simp; done) | (go_simp; with_reducible rfl)
        simp only [Act.put]
        refine d_take (f := 30) (v := ?_) 18 rfl (by kernel_rfl) (fun _ _ _ h => h) (Or.inl ⟨by rfl, ?_⟩) hS ?_
        rotate_left
        · intro wx hx
          obtain ⟨x0, x1, x2, x3, x4⟩ := hx
          first | (go_simp; done) | (go_simp; with_reducible rfl)
        simp only [Act.put]
        refine d_step 19 (by kernel_rfl) rfl (fun K hK => ?_)
        go_simp
        go_at_call 82
        refine (Hmo.out _).mono ?_
        rintro e wx ⟨rfl, rfl⟩
        refine hK.out _ _ (fun _ => hS) ?_
        clear hK K
        try simp only [Act.put, List.setIfInBounds_toArray, List.set_cons_zero, List.set_cons_succ]
        refine d_step 20 (by kernel_rfl) rfl (fun K hK => ?_)
        go_simp
        go_at_call 81
        refine (Hle.out _).mono ?_
        rintro e wx ⟨rfl, rfl⟩
        refine hK.out _ _ (fun _ => hS) ?_
        clear hK K
        try simp only [Act.put, List.setIfInBounds_toArray, List.set_cons_zero, List.set_cons_succ]
        refine d_takeY (v := ?_) 21 rfl (by kernel_rfl) (fun _ _ _ h => h) (Or.inl ⟨by rfl, ?_⟩) hS ?_
        rotate_left
        · intro wx _
          first | (go_simp; done) | (go_simp; with_reducible rfl)
        simp only [Act.put, List.setIfInBounds_toArray]
        clear hS
        refine d_step 22 (by kernel_rfl) rfl (fun K hK => ?_)
        go_simp
        refine hK.out _ _ (fun h => by exact absurd h (by decide)) ?_
        clear hK K
        try simp only [Act.put, List.setIfInBounds_toArray, List.set_cons_zero, List.set_cons_succ]
        refine d_step 23 (by kernel_rfl) rfl (fun K hK => ?_)
        go_simp
        refine hK.out _ _ (fun h => by exact absurd h (by decide)) ?_
        clear hK K
        refine d_done (by kernel_rfl) ?_ _
        try simp only [Act.put, List.setIfInBounds_toArray, List.set_cons_zero, List.set_cons_succ]
        rw [hnL] at O6
        generalize hw6 : World.setCell _ _ _ = w6
        rw [hw6] at O6
        have hne1 : w.heap.size + 1 ≠ g' := by omega
        have hne3 : w2.heap.size ≠ g' := by omega
        have ot : ∀ b i, b ≠ g' → w6.cell? ⟨b, i, none⟩ = w4.cell? ⟨b, i, none⟩ := fun b i hb => by rw [← hw6, World.cell?_setCell_other _ _ _ _ (fun e => hb (congrArg Addr.block e).symm), World.cell?_setCell_other _ _ _ _ (fun e => hb (congrArg Addr.block e).symm), World.cell?_setCell_other _ _ _ _ (fun e => hb (congrArg Addr.block e).symm)]
        have of : ∀ p, w6.frozen? p = w4.frozen? p := fun p => by rw [← hw6, World.frozen?_setCell, World.frozen?_setCell, World.frozen?_setCell]
        have b6 : Below w.heap.size w w6 := by rw [← hw6]; exact below_setCell (below_setCell (below_setCell b4 (by simp; omega)) (by simp; omega)) (by simp; omega)
        rw [← ot _ _ hne1] at r0 r1 r2
        rw [← ot _ _ hne3] at q0 q1 q2
        rw [← of] at g0 g1 g2
        clear hw6 ot of hf0 hf1 hf2 hy0 hy1 hy2 b4 b3
        go_wp2
        all_goals
          refine bodyPost_ret (v := .tuple #[.agg #[.slice (some ⟨g', o', none⟩) n c', .int .i64 term, .int .i64 (k : Int)], .bool true]) (by simp [results, Try.results66, go_sem, r0, r1, r2]) rfl ⟨.slice (some ⟨g', o', none⟩) n c', rfl, ?_, by (repeat (first | (with_reducible exact Below.refl _ _) | (with_reducible refine below_setCell ?_ (by first | (simp; done) | (simp; omega) | omega)) | (with_reducible refine below_alloc _ ?_) | (with_reducible refine below_drewN ?_ _) | (with_reducible refine below_drew_step ?_) | (with_reducible assumption) | (with_reducible refine below_after (by assumption) ?_)))⟩
          rw [Hst.out]
          exact (own_weakR (O6.out.keep (Nat.le_refl _) (by refine keep_drewS _ _ _ ?_; (repeat (first | (with_reducible exact Keep.refl _ _) | (with_reducible refine keep_set ?_ (by first | (simp; done) | (simp; omega) | omega)) | (with_reducible refine keep_alloc _ ?_) | (with_reducible refine keep_drewN ?_ _) | (with_reducible assumption) | (with_reducible refine keep_below (by assumption) ?_)))))).mono (by omega)

end Go.Proofs.Ytfaefjdlfjhniaa

