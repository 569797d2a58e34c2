/- spec.GoodGroup. -/
import Derived.Test.YtogdbjalgledpaaLog2
namespace Go.Proofs.Ytogdbjalgledpaa
open Go.RowKit

noncomputable def repB (term : Int) (x : ReplicaD) : Bool := pB (GoodLog x.Log term) && inB x.Sure 0 (x.Log.length : Int)
def upB (l : List ReplicaD) (lead : Int) : Bool := decide (lead < 0) || ((l[lead.toNat]?).map fun r => r.Up).getD false
def manyB (n : Nat) : Bool := !(((n : Int) != 3) && ((n : Int) != 5))
noncomputable def goodGB (l : List ReplicaD) (term lead : Int) : Bool := (((manyB l.length && inB term 0 200) && inB lead (-1) ((l.length : Int) - 1)) && l.all (repB term)) && upB l lead

theorem rep_le {l : List ReplicaD} (hl : costReplicaS l ≤ 1048576) {k : Nat} (hk : k < l.length) : costEntryS l[k].Log ≤ 1048576 := by
  have h1 := sumC_get costReplica l k hk
  unfold costReplicaS at hl
  have h2 : costEntryS l[k].Log = costReplica l[k] := rfl
  omega

set_option maxRecDepth 100000 in
set_option maxHeartbeats 3200000 in
/-- spec.GoodGroup -/
theorem goodGroupS_any (v : Value) (l : List ReplicaD) (term lead : Int) (ht : I64 term) (hd : I64 lead) (hl : costReplicaS l ≤ 1048576) (w : World) (h : Rd Cod.replica w v l) :
    Calls Try.prog 42 #[.agg #[v, .int .i64 term, .int .i64 lead]] w fun e w' => e = .returned (.bool (goodGB l term lead)) ∧ Below w.heap.size w w' := by
  obtain ⟨p, c, rfl, _, _, r⟩ := h.form
  have R := Lib.hid r
  have Hl := Lib.hid hl
  have Ht := Lib.hid ht
  clear r h
  obtain ⟨n, hn⟩ : ∃ n : Nat, l.length = n := ⟨_, rfl⟩
  have Hn0 := Lib.hid hn
  unfold goodGB
  rw [hn]
  have hnb : (n : Int) ≤ 1048576 := by unfold costReplicaS at hl; omega
  obtain ⟨ht1, ht2⟩ := ht
  obtain ⟨hd1, hd2⟩ := hd
  clear hn hl
  have H1 := Lib.hid (fun W => l1In_any term 0 200 W)
  have H2 : Hid (∀ W, Calls Try.prog 85 #[.int .i64 lead, .int .i64 (-1), .int .i64 ((n : Int) - 1)] W fun e w' => e = .returned (.bool (inB lead (-1) ((n : Int) - 1))) ∧ W = w') := Lib.hid (fun W => l1In_any lead (-1) ((n : Int) - 1) W)
  have Hin : Hid (inB lead (-1) ((n : Int) - 1) = true → lead ≤ (n : Int) - 1 ∧ -1 ≤ lead) := Lib.hid fun h => by have := inB_iff.1 h; omega
  generalize inB term 0 200 = q1 at *
  generalize inB lead (-1) ((n : Int) - 1) = q2 at *
  unfold manyB
  generalize hb3 : ((n : Int) != 3) = b3 at *
  generalize hb5 : ((n : Int) != 5) = b5 at *
  have hbad : (b3 && b5) = true ∨ (b3 && b5) = false := by cases b3 <;> cases b5 <;> simp
  rcases hbad with hbad | hbad
  · obtain ⟨rfl, rfl⟩ : b3 = true ∧ b5 = true := by simpa using hbad
    clear hbad
    go_enter Try.func42, Try.ntmps42
    go_wp2
    go_ret
    exact ⟨ret_bool (by simp), by (repeat (first | (with_reducible exact Below.refl _ _) | (with_reducible refine below_setCell ?_ (by first | (simp; done) | (simp; omega) | omega)) | (with_reducible refine below_alloc _ ?_) | (with_reducible refine below_drewN ?_ _) | (with_reducible assumption) | (with_reducible refine below_after (by assumption) ?_)))⟩
  rw [hbad]
  cases q1
  · cases b3 <;> cases b5 <;> first
      | (exfalso; simp at hbad; done)
      | (go_enter Try.func42, Try.ntmps42
         go_wp2_with fail
         refine (H1.out _).mono ?_
         rintro e w1 ⟨rfl, rfl⟩
         go_wp2
         go_ret
         exact ⟨ret_bool (by simp), by (repeat (first | (with_reducible exact Below.refl _ _) | (with_reducible refine below_setCell ?_ (by first | (simp; done) | (simp; omega) | omega)) | (with_reducible refine below_alloc _ ?_) | (with_reducible refine below_drewN ?_ _) | (with_reducible assumption) | (with_reducible refine below_after (by assumption) ?_)))⟩)
  cases q2
  · cases b3 <;> cases b5 <;> first
      | (exfalso; simp at hbad; done)
      | (go_enter Try.func42, Try.ntmps42
         go_wp2_with fail
         refine (H1.out _).mono ?_
         rintro e w1 ⟨rfl, rfl⟩
         go_wp2_with fail
         refine (H2.out _).mono ?_
         rintro e w1 ⟨rfl, rfl⟩
         go_wp2
         go_ret
         exact ⟨ret_bool (by simp), by (repeat (first | (with_reducible exact Below.refl _ _) | (with_reducible refine below_setCell ?_ (by first | (simp; done) | (simp; omega) | omega)) | (with_reducible refine below_alloc _ ?_) | (with_reducible refine below_drewN ?_ _) | (with_reducible assumption) | (with_reducible refine below_after (by assumption) ?_)))⟩)
  obtain ⟨hle1, hle2⟩ := Hin.out rfl
  have Hgoal : Hid (∀ a b : Bool, ((((!false && true) && true) && a) && b) = (a && b)) := Lib.hid fun a b => by cases a <;> cases b <;> rfl
  rw [Hgoal.out]
  cases b3 <;> cases b5 <;> first
    | (exfalso; simp at hbad; done)
    | (clear hbad
       go_enter Try.func42, Try.ntmps42
       go_wp2_with fail
       refine (H1.out _).mono ?_
       rintro e w1 ⟨rfl, rfl⟩
       go_wp2_with fail
       refine (H2.out _).mono ?_
       rintro e w1 ⟨rfl, rfl⟩
       go_wp2
       go_loopw [3] (fun i wr => ∃ k : Nat, i = .int .i64 (k : Int) ∧ k ≤ n ∧ Hid (∀ j (h : j < l.length), j < k → repB term l[j] = true) ∧ (wr.cell? ⟨w.heap.size, 0, none⟩ = some (.slice p n c) ∧ wr.cell? ⟨w.heap.size, 1, none⟩ = some (.int .i64 term) ∧ wr.cell? ⟨w.heap.size, 2, none⟩ = some (.int .i64 lead)) ∧ w.heap.size < wr.heap.size ∧ Below w.heap.size w wr) (fun i _ => n - (intOf i).toNat)
       case atStart => exact ⟨0, rfl, Nat.zero_le _, Lib.hid (fun j _ h => by omega), ⟨by simp [go_sem], by simp [go_sem], by simp [go_sem]⟩, by simp, by (repeat (first | (with_reducible exact Below.refl _ _) | (with_reducible refine below_setCell ?_ (by first | (simp; done) | (simp; omega) | omega)) | (with_reducible refine below_alloc _ ?_) | (with_reducible refine below_drewN ?_ _) | (with_reducible assumption) | (with_reducible refine below_after (by assumption) ?_)))⟩
       case round =>
         obtain ⟨k, rfl, hk, Hall, ⟨c0, c1, c2⟩, hsz, hb⟩ := hrel
         have hbs := hb.size
         by_cases hlt : k < n
         · have hlt2 : (k : Int) < (n : Int) := by omega
           have hkl : k < l.length := by have := Hn0.out; omega
           obtain ⟨g, o, rfl, hg, hc⟩ := R.out (by have := Hn0.out; omega)
           have at0 := (hc k hkl).below hg hb
           have hel := rep_le Hl.out hkl
           have hgl : g < wr.heap.size := by omega
           have Hb0 : Hid (repB term l[k] = false → l.all (repB term) = false) := Lib.hid fun h => List.all_eq_false.2 ⟨l[k], List.getElem_mem hkl, by rw [h]; simp⟩
           have Hn : Hid (repB term l[k] = true → ∀ j (h : j < l.length), j < k + 1 → repB term l[j] = true) := Lib.hid fun h j hj hjk => by
             by_cases e : j = k
             · subst e; exact h
             · exact Hall.out j hj (by omega)
           obtain ⟨y, es⟩ : ∃ y, l[k] = y := ⟨_, rfl⟩
           rw [es] at at0 Hb0 hel Hn
           obtain ⟨d0, ⟨u, d1, rr⟩, d2, _⟩ := at_replica at0
           rw [show o + k * Cod.replica.size = o + k * 3 from rfl] at *
           obtain ⟨pr, cr, rfl, -⟩ := rr.form
           have Hc : Hid (∀ W, Below wr.heap.size wr W → Calls Try.prog 86 #[.agg #[.bool y.Up, .slice pr y.Log.length cr, .int .i64 y.Sure], .int .i64 term] W fun e w' => e = .returned (.bool (repB term y)) ∧ Below W.heap.size W w') := Lib.hid fun W b => l9GoodRep_any y term Ht.out hel W _ (rr.below b)
           clear hc es hkl at0 hel rr
           generalize repB term y = q at *
           go_wp2_with fail
           have hx2 := fun (u : World) (b o : Nat) (h : b < wr.heap.size) => ext_cell wr u b o h
           refine wp_region_ext (by kernel_rfl) (by kernel_rfl) wr.heap.size ?_
           repeat (any_goals (go_big_quiet_step ((go_at_call 86; exact calls_ext (by first | (simp; done) | omega | (simp; omega)) (Hc.out _ (ext_below _ _ _))))))
           refine wpQuiet_nil ?_
           intro w2 hb2
           clear hx2
           replace c0 := cell_step hb2 c0
           replace c1 := cell_step hb2 c1
           replace c2 := cell_step hb2 c2
           cases q
           · have Hq := Lib.hid (Hb0.out (by first | rfl | trivial))
             go_wp2
             go_ret
             exact ⟨ret_bool (by rw [Hq.out]; simp), below_after hb2 hb⟩
           · have Hq := Lib.hid (Hn.out (by first | rfl | trivial))
             go_wp2
             go_roundw
             case rel => exact ⟨k + 1, by go_num, by omega, Hq, ⟨c0, c1, c2⟩, Nat.lt_of_lt_of_le hsz hb2.size, below_after hb2 hb⟩
             case measure => simp [intOf]; omega
         · have hlt2 : (n : Int) ≤ (k : Int) := by omega
           obtain rfl : k = n := by omega
           have Hq : Hid (l.all (repB term) = true) := Lib.hid (List.all_eq_true.2 fun x hx => by
             obtain ⟨j, hj, rfl⟩ := List.getElem_of_mem hx
             exact Hall.out j hj (by have := Hn0.out; omega))
           by_cases hneg : lead < 0
           · have Hu : Hid (upB l lead = true) := Lib.hid (by unfold upB; rw [decide_eq_true hneg]; rfl)
             go_wp2
             go_ret
             exact ⟨ret_bool (by rw [Hq.out, Hu.out]; first | done | rfl | simp), hb⟩
           · obtain ⟨m, rfl⟩ : ∃ m : Nat, lead = (m : Int) := ⟨lead.toNat, by omega⟩
             have hmk : (m : Int) < (k : Int) := by omega
             have hml : m < l.length := by have := Hn0.out; omega
             obtain ⟨g, o, rfl, hg, hc⟩ := R.out (by have := Hn0.out; omega)
             have at0 := (hc m hml).below hg hb
             have hgl : g < wr.heap.size := by omega
             have Hu : Hid (upB l (m : Int) = l[m].Up) := Lib.hid (by unfold upB; rw [decide_eq_false (by omega), Int.toNat_natCast, List.getElem?_eq_getElem hml]; rfl)
             obtain ⟨y, es⟩ : ∃ y, l[m] = y := ⟨_, rfl⟩
             rw [es] at at0 Hu
             obtain ⟨d0, _⟩ := at_replica at0
             rw [show o + m * Cod.replica.size = o + m * 3 from rfl] at *
             clear hc es hml at0
             have hm0 : (0 : Int) ≤ (m : Int) := by omega
             go_wp2
             go_ret
             exact ⟨ret_bool (by rw [Hq.out, Hu.out]; first | done | rfl | simp), hb⟩)

end Go.Proofs.Ytogdbjalgledpaa
