/- impl.GoodGroup: its closure, ContainsFunc. Printed by mkgg.py. -/
import Derived.Test.YtogdbjalgledpaaGG1
namespace Go.Proofs.Ytogdbjalgledpaa
open Go.RowKit

noncomputable def badRep (term : Int) (x : ReplicaD) : Bool := !repB term x

set_option maxRecDepth 100000 in
/-- the closure of impl.GoodGroup -/
theorem grpCf_closure (x : ReplicaD) (term : Int) (ht : I64 term) (hl : costEntryS x.Log ≤ 1048576) (w : World) (u : Value) (r : Rd Cod.entry w u x.Log) (B : Nat) (hcB : w.cell? ⟨B, 1, none⟩ = some (.int .i64 term)) :
    Calls Try.prog 82 #[.agg #[.bool x.Up, u, .int .i64 x.Sure], .pointer (some ⟨B, 0, none⟩)] w fun e w' => e = .returned (.bool (badRep term x)) ∧ Below w.heap.size w w' := by
  have Hc := Lib.hid (fun (W : World) (b : Below w.heap.size w W) => isLog_any u x.Log term ht hl W (r.below b))
  have Hs := Lib.hid (fun W => within_any x.Sure 0 (x.Log.length : Int) W)
  have hB := World.block_lt_of_cell? _ _ hcB
  obtain ⟨p, c, rfl, -⟩ := r.form
  clear r
  unfold badRep repB
  obtain ⟨up, l, sure⟩ := x
  dsimp only at *
  generalize pB (GoodLog l term) = q1 at *
  generalize inB sure 0 (l.length : Int) = q2 at *
  generalize l.length = n at *
  cases q1
  · go_enter Try.func82, Try.ntmps82
    go_wp2_with fail
    refine (Hc.out _ (by (repeat (first | (with_reducible exact Below.refl _ _) | (with_reducible refine below_setCell ?_ (by first | (simp; done) | (simp; omega) | omega)) | (with_reducible refine below_alloc _ ?_) | (with_reducible refine below_drewN ?_ _) | (with_reducible assumption) | (with_reducible refine below_after (by assumption) ?_))))).mono ?_
    rintro e w1 ⟨rfl, k1⟩
    go_wp2
    go_ret
    exact ⟨rfl, below_after k1 (by (repeat (first | (with_reducible exact Below.refl _ _) | (with_reducible refine below_setCell ?_ (by first | (simp; done) | (simp; omega) | omega)) | (with_reducible refine below_alloc _ ?_) | (with_reducible refine below_drewN ?_ _) | (with_reducible assumption) | (with_reducible refine below_after (by assumption) ?_))))⟩
  · go_enter Try.func82, Try.ntmps82
    go_wp2_with fail
    refine (Hc.out _ (by (repeat (first | (with_reducible exact Below.refl _ _) | (with_reducible refine below_setCell ?_ (by first | (simp; done) | (simp; omega) | omega)) | (with_reducible refine below_alloc _ ?_) | (with_reducible refine below_drewN ?_ _) | (with_reducible assumption) | (with_reducible refine below_after (by assumption) ?_))))).mono ?_
    rintro e w1 ⟨rfl, k1⟩
    have g1 : w1.cell? ⟨w.heap.size, 1, none⟩ = some (.slice p n c) := by rw [(bcell k1).1 _ _ (by simp)]; simp [go_sem]
    have g2 : w1.cell? ⟨w.heap.size, 2, none⟩ = some (.int .i64 sure) := by rw [(bcell k1).1 _ _ (by simp)]; simp [go_sem]
    have b1 : Below w.heap.size w w1 := below_after k1 (by (repeat (first | (with_reducible exact Below.refl _ _) | (with_reducible refine below_setCell ?_ (by first | (simp; done) | (simp; omega) | omega)) | (with_reducible refine below_alloc _ ?_) | (with_reducible refine below_drewN ?_ _) | (with_reducible assumption) | (with_reducible refine below_after (by assumption) ?_))))
    clear k1
    go_wp2_with fail
    refine (Hs.out _).mono ?_
    rintro e w2 ⟨rfl, rfl⟩
    go_wp2
    go_ret
    exact ⟨ret_bool (by simp), b1⟩

set_option maxRecDepth 100000 in
set_option maxHeartbeats 800000 in
/-- slices.IndexFunc at the closure -/
theorem grpCf_idx (v : Value) (l : List ReplicaD) (term : Int) (ht : I64 term) (hl : l.length ≤ 1048576) (hcost : costReplicaS l ≤ 1048576) (w : World) (h : Rd Cod.replica w v l) (B : Nat) (hcB : w.cell? ⟨B, 1, none⟩ = some (.int .i64 term)) :
    Calls Try.prog 113 #[v, .func (.func 82) #[] #[.pointer (some ⟨B, 0, none⟩)]] w fun e w' => (∃ r : Int, e = .returned (.int .i64 r) ∧ ((0 ≤ r ∧ r ≤ 1048576 ∧ l.any (badRep term) = true) ∨ (r = -1 ∧ l.any (badRep term) = false))) ∧ Below w.heap.size w w' := by
  obtain ⟨p, c, rfl, _, _, r⟩ := h.form
  have R := Lib.hid r
  have HcB := Lib.hid hcB
  have hB := World.block_lt_of_cell? _ _ hcB
  have HL := Lib.hid hcost
  have Ht := Lib.hid ht
  clear r h hcB hcost ht
  obtain ⟨n, hn⟩ : ∃ n : Nat, l.length = n := ⟨_, rfl⟩
  have Hn := Lib.hid hn
  rw [hn]
  have hnb : (n : Int) ≤ 1048576 := by omega
  clear hn hl
  go_enter Try.func113, Try.ntmps113
  go_wp2
  go_loopw [5, 8] (fun _ i wr => ∃ k : Nat, i = .int .i64 (k : Int) ∧ k ≤ n ∧ Hid (∀ j (h : j < l.length), j < k → (badRep term) l[j] = false) ∧ Below w.heap.size w wr) (fun _ i _ => n - (intOf i).toNat)
  case atStart => exact ⟨0, rfl, Nat.zero_le _, Lib.hid fun j _ h => by omega, Below.refl _ _⟩
  case round =>
    obtain ⟨k, rfl, hk, Hall, hb⟩ := hrel
    by_cases hlt : k < n
    · have hlt2 : (k : Int) < (n : Int) := by omega
      have hkl : k < l.length := by have := Hn.out; omega
      obtain ⟨g, o, rfl, hg, hc⟩ := R.out (by have := Hn.out; omega)
      have at0 := (hc k hkl).below hg hb
      have Hb : Hid ((badRep term) l[k] = true → l.any (badRep term) = true) := Lib.hid fun h => List.any_eq_true.2 ⟨l[k], List.getElem_mem hkl, h⟩
      have Hnx : Hid ((badRep term) l[k] = false → ∀ j (h : j < l.length), j < k + 1 → (badRep term) l[j] = false) := Lib.hid fun h j hj hjk => by
        by_cases e : j = k
        · subst e; exact h
        · exact Hall.out j hj (by omega)
      have hel := rep_le HL.out hkl
      obtain ⟨x, es⟩ : ∃ x, l[k] = x := ⟨_, rfl⟩
      rw [es] at at0 Hb Hnx hel
      clear hc es hkl
      obtain ⟨d0, ⟨uLog, d1, rLog⟩, d2, zSure⟩ := at_replica at0
      rw [show o + k * Cod.replica.size = o + k * 3 from rfl] at *
      clear at0
      have cB := (hb.cell (p := ⟨B, 1, none⟩) hB).trans HcB.out
      obtain ⟨pr, cr, rfl, -⟩ := rLog.form
      have Hc := Lib.hid (fun (W : World) (b : Below wr.heap.size wr W) => grpCf_closure x term Ht.out hel W _ (rLog.below b) B (cell_step b cB))
      clear rLog hel cB
      generalize (badRep term) x = b at *
      cases b
      · go_wp2_with fail
        refine (Hc.out _ (by (repeat (first | (with_reducible exact Below.refl _ _) | (with_reducible refine below_setCell ?_ (by first | (simp; done) | (simp; omega) | omega)) | (with_reducible refine below_alloc _ ?_) | (with_reducible refine below_drewN ?_ _) | (with_reducible assumption) | (with_reducible refine below_after (by assumption) ?_))))).mono ?_
        rintro e w1 ⟨rfl, k1⟩
        go_wp2
        go_roundw
        case rel => exact ⟨k + 1, by go_num, by omega, Lib.hid (Hnx.out (by first | rfl | trivial)), below_after k1 hb⟩
        case measure => simp [intOf]; omega
      · have Hq := Lib.hid (Hb.out (by first | rfl | trivial))
        go_wp2_with fail
        refine (Hc.out _ (by (repeat (first | (with_reducible exact Below.refl _ _) | (with_reducible refine below_setCell ?_ (by first | (simp; done) | (simp; omega) | omega)) | (with_reducible refine below_alloc _ ?_) | (with_reducible refine below_drewN ?_ _) | (with_reducible assumption) | (with_reducible refine below_after (by assumption) ?_))))).mono ?_
        rintro e w1 ⟨rfl, k1⟩
        go_wp2
        go_ret
        exact ⟨⟨_, rfl, Or.inl ⟨by omega, by omega, Hq.out⟩⟩, below_after k1 hb⟩
    · have hlt2 : (n : Int) ≤ (k : Int) := by omega
      obtain rfl : k = n := by omega
      have Hq : Hid (l.any (badRep term) = false) := Lib.hid (List.any_eq_false.2 fun x hx => by
        obtain ⟨j, hj, rfl⟩ := List.getElem_of_mem hx
        rw [Hall.out j hj (by have := Hn.out; omega)]
        simp)
      go_wp2
      go_ret
      exact ⟨⟨_, rfl, Or.inr ⟨rfl, Hq.out⟩⟩, hb⟩

/-- slices.ContainsFunc at the closure -/
theorem grpCf_any (v : Value) (l : List ReplicaD) (term : Int) (ht : I64 term) (hl : l.length ≤ 1048576) (hcost : costReplicaS l ≤ 1048576) (w : World) (h : Rd Cod.replica w v l) (B : Nat) (hcB : w.cell? ⟨B, 1, none⟩ = some (.int .i64 term)) :
    Calls Try.prog 81 #[v, .func (.func 82) #[] #[.pointer (some ⟨B, 0, none⟩)]] w fun e w' => e = .returned (.bool (l.any (badRep term))) ∧ Below w.heap.size w w' := by
  have Hc := Lib.hid (grpCf_idx v l term ht hl hcost w h B hcB)
  clear hcB hcost
  generalize l.any (badRep term) = b at *
  go_enter Try.func81, Try.ntmps81
  go_wp2_with fail
  refine Hc.out.mono ?_
  rintro e w1 ⟨⟨r, rfl, hr⟩, k1⟩
  rcases hr with ⟨h0, h1, ha⟩ | ⟨rfl, ha⟩
  · have Ha := Lib.hid ha
    clear ha
    go_wp2
    go_ret
    exact ⟨ret_bool (by first | (rw [Ha.out]; done) | (rw [Ha.out]; simp; omega)), k1⟩
  · have Ha := Lib.hid ha
    clear ha
    go_wp2
    go_ret
    exact ⟨ret_bool (by first | (rw [Ha.out]; done) | (rw [Ha.out]; simp)), k1⟩

end Go.Proofs.Ytogdbjalgledpaa
