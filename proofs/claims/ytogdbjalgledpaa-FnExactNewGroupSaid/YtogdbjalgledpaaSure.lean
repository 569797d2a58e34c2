/- spec.SureLog, impl.SureLog. -/
import Derived.Test.YtogdbjalgledpaaRowTD
import Derived.Test.YtogdbjalgledpaaRaft
import Derived.Test.YtogdbjalgledpaaGG3
import Derived.Test.YtogdbjalgledpaaPick
import Derived.Test.YtogdbjalgledpaaCopyLog
import Derived.Test.YtogdbjalgledpaaOwnLog
import Derived.Deep.RegionWith
import Derived.Deep.DeepCutAuto
namespace Go.Proofs.Ytogdbjalgledpaa
open Go.RowKit

theorem pick_costEntry (q : Bool) (l : List EntryD) (h : costEntryS l ≤ 1048576) : costEntryS (pickL q l) ≤ 1048576 := by
  cases q
  · show costEntryS [] ≤ _
    simp [costEntryS, sumC]
  · exact h

/-- What a leader knows to be committed. -/
def sureL (l : List ReplicaD) (lead : Int) : List EntryD := match l[lead.toNat]? with
  | some r => r.Log.take r.Sure.toNat
  | none => []

theorem sumC_take_le {α : Type} (f : α → Nat) (l : List α) (k : Nat) : sumC f (l.take k) ≤ sumC f l := sumC_le f l k

theorem take_cost (l : List EntryD) (k : Nat) : costEntryS (l.take k) ≤ costEntryS l := by
  have := sumC_le costEntry l k
  unfold costEntryS
  rw [List.length_take]
  omega

theorem sureL_cost {l : List ReplicaD} (hl : costReplicaS l ≤ 1048576) (lead : Int) : costEntryS (sureL l lead) ≤ 1048576 := by
  unfold sureL
  cases h : l[lead.toNat]? with
  | none => show costEntryS [] ≤ _; simp [costEntryS, sumC]
  | some r =>
    obtain ⟨hi, hr⟩ := List.getElem?_eq_some_iff.1 h
    have h1 := rep_le hl hi
    rw [hr] at h1
    exact Nat.le_trans (take_cost _ _) h1

set_option maxRecDepth 100000 in
/-- impl.Replica.sure -/
theorem repSure_any (up : Bool) (p : Option Addr) (n c m : Nat) (hn : (n : Int) ≤ 1048576) (hc : n ≤ c) (hm : m ≤ n) (w : World) :
    Calls Try.prog 47 #[.agg #[.bool up, .slice p n c, .int .i64 (m : Int)]] w fun e w' => e = .returned (.slice p m c) ∧ Below w.heap.size w w' := by
  have hm2 : (m : Int) ≤ (c : Int) := by omega
  have hm0 : (0 : Int) ≤ (m : Int) := by omega
  go_enter Try.func47, Try.ntmps47
  go_wp2
  go_ret
  exact ⟨rfl, by (repeat (first | (with_reducible exact Below.refl _ _) | (with_reducible refine below_setCell ?_ (by first | (simp; done) | (simp; omega) | omega)) | (with_reducible refine below_alloc _ ?_) | (with_reducible refine below_drewN ?_ _) | (with_reducible assumption) | (with_reducible refine below_after (by assumption) ?_)))⟩

set_option maxRecDepth 100000 in
set_option maxHeartbeats 1600000 in
/-- impl.SureLog -/
theorem sureLog_any (v : Value) (l : List ReplicaD) (term lead : Int) (ht : I64 term) (hd : I64 lead) (hl : costReplicaS l ≤ 1048576) (w : World) (h : Rd Cod.replica w v l) :
    Calls Try.prog 34 #[.agg #[v, .int .i64 term, .int .i64 lead]] w fun e w' => ∃ v', e = .returned (.tuple #[v', .bool (goodGB l term lead && decide (0 ≤ lead))]) ∧ Own Cod.entry w' w.heap.size v' (pickL (goodGB l term lead && decide (0 ≤ lead)) (sureL l lead)) ∧ Below w.heap.size w w' := by
  have Hg := Lib.hid (fun (W : World) (b : Below w.heap.size w W) => goodGroup_any v l term lead ht hd hl W (h.below b))
  have Hq := Lib.hid (goodG_iff (g := ⟨l, term, lead⟩))
  unfold goodG at Hq
  have Hl := Lib.hid hl
  obtain ⟨p, c, rfl, _, _, r⟩ := h.form
  have R := Lib.hid r
  clear r h hl
  obtain ⟨n, hn⟩ : ∃ n : Nat, l.length = n := ⟨_, rfl⟩
  have Hn := Lib.hid hn
  have hnb : (n : Int) ≤ 1048576 := by have := Hl.out; unfold costReplicaS at this; omega
  rw [hn] at Hg ⊢
  clear hn
  obtain ⟨hd1, hd2⟩ := hd
  dsimp only at Hq
  generalize goodGB l term lead = q at *
  cases q
  · go_enter Try.func34, Try.ntmps34
    go_wp2_with fail
    refine (Hg.out _ (by (repeat (first | (with_reducible exact Below.refl _ _) | (with_reducible refine below_setCell ?_ (by first | (simp; done) | (simp; omega) | omega)) | (with_reducible refine below_alloc _ ?_) | (with_reducible refine below_drewN ?_ _) | (with_reducible assumption) | (with_reducible refine below_after (by assumption) ?_))))).mono ?_
    rintro e w1 ⟨rfl, k1⟩
    have b1 : Below w.heap.size w w1 := below_after k1 (by (repeat (first | (with_reducible exact Below.refl _ _) | (with_reducible refine below_setCell ?_ (by first | (simp; done) | (simp; omega) | omega)) | (with_reducible refine below_alloc _ ?_) | (with_reducible refine below_drewN ?_ _) | (with_reducible assumption) | (with_reducible refine below_after (by assumption) ?_))))
    clear k1
    go_wp2
    go_ret2
    exact ⟨_, rfl, own_nil _ _ _, b1⟩
  · by_cases hneg : lead < 0
    · have hdec : decide (0 ≤ lead) = false := decide_eq_false (by omega)
      rw [hdec]
      clear hdec
      go_enter Try.func34, Try.ntmps34
      go_wp2_with fail
      refine (Hg.out _ (by (repeat (first | (with_reducible exact Below.refl _ _) | (with_reducible refine below_setCell ?_ (by first | (simp; done) | (simp; omega) | omega)) | (with_reducible refine below_alloc _ ?_) | (with_reducible refine below_drewN ?_ _) | (with_reducible assumption) | (with_reducible refine below_after (by assumption) ?_))))).mono ?_
      rintro e w1 ⟨rfl, k1⟩
      have b1 : Below w.heap.size w w1 := below_after k1 (by (repeat (first | (with_reducible exact Below.refl _ _) | (with_reducible refine below_setCell ?_ (by first | (simp; done) | (simp; omega) | omega)) | (with_reducible refine below_alloc _ ?_) | (with_reducible refine below_drewN ?_ _) | (with_reducible assumption) | (with_reducible refine below_after (by assumption) ?_))))
      have hx1 := bcell k1
      go_wp2
      go_ret2
      exact ⟨_, rfl, own_nil _ _ _, b1⟩
    · obtain ⟨m, rfl⟩ : ∃ m : Nat, lead = (m : Int) := ⟨lead.toNat, by omega⟩
      have hml : m < l.length := by
        rcases (Hq.out.1 rfl).2.2.2 with h | ⟨L, x, h, h1, _⟩
        · omega
        · have := (List.getElem?_eq_some_iff.1 h1).1; omega
      have hgood := (Hq.out.1 rfl).2.2.1 l[m] (List.getElem_mem hml)
      have hel := rep_le Hl.out hml
      have Hs : Hid (sureL l (m : Int) = l[m].Log.take l[m].Sure.toNat) := Lib.hid (by unfold sureL; rw [Int.toNat_natCast, List.getElem?_eq_getElem hml])
      obtain ⟨g, o, rfl, hg, hc⟩ := R.out (by omega)
      have at0 := hc m hml
      have hmk : (m : Int) < (n : Int) := by have := Hn.out; omega
      have hm0 : (0 : Int) ≤ (m : Int) := by omega
      have hdec : decide (0 ≤ (m : Int)) = true := decide_eq_true hm0
      rw [hdec]
      clear hdec hc
      obtain ⟨y, es⟩ : ∃ y, l[m] = y := ⟨_, rfl⟩
      rw [es] at at0 Hs hgood hel
      clear es
      obtain ⟨d0, ⟨u, d1, rr⟩, d2, _⟩ := at_replica at0
      rw [show o + m * Cod.replica.size = o + m * 3 from rfl] at *
      obtain ⟨pr, cr, rfl, hlc, -, -⟩ := rr.form
      obtain ⟨s, hs⟩ : ∃ s : Nat, y.Sure = (s : Int) := ⟨y.Sure.toNat, by omega⟩
      rw [hs] at d2 hgood Hs
      rw [Int.toNat_natCast] at Hs
      have hsl : s ≤ y.Log.length := by omega
      have Hln : y.Log.length ≤ 1048576 := by unfold costEntryS at hel; omega
      have Hc1 := Lib.hid (fun (W : World) => repSure_any y.Up pr y.Log.length cr s (by omega) hlc hsl W)
      have Hc2 := Lib.hid (fun (W : World) (b : Below w.heap.size w W) => copyEntries_any (.slice pr s cr) (y.Log.take s) (Nat.le_trans (take_cost _ _) hel) W ((rr.take s hsl).below b))
      clear at0 hml rr hgood hs hel hsl hlc Hln
      generalize y.Log.length = nl at *
      go_enter Try.func34, Try.ntmps34
      go_wp2_with fail
      refine (Hg.out _ (by (repeat (first | (with_reducible exact Below.refl _ _) | (with_reducible refine below_setCell ?_ (by first | (simp; done) | (simp; omega) | omega)) | (with_reducible refine below_alloc _ ?_) | (with_reducible refine below_drewN ?_ _) | (with_reducible assumption) | (with_reducible refine below_after (by assumption) ?_))))).mono ?_
      rintro e w1 ⟨rfl, k1⟩
      have b1 : Below w.heap.size w w1 := below_after k1 (by (repeat (first | (with_reducible exact Below.refl _ _) | (with_reducible refine below_setCell ?_ (by first | (simp; done) | (simp; omega) | omega)) | (with_reducible refine below_alloc _ ?_) | (with_reducible refine below_drewN ?_ _) | (with_reducible assumption) | (with_reducible refine below_after (by assumption) ?_))))
      have c0 : w1.cell? ⟨w.heap.size, 0, none⟩ = some (.slice (some ⟨g, o, none⟩) n c) := by rw [(bcell k1).1 _ _ (by first | (simp; done) | (simp; omega))]; simp [go_sem]
      have c1 : w1.cell? ⟨w.heap.size, 1, none⟩ = some (.int .i64 term) := by rw [(bcell k1).1 _ _ (by first | (simp; done) | (simp; omega))]; simp [go_sem]
      have c2 : w1.cell? ⟨w.heap.size, 2, none⟩ = some (.int .i64 (m : Int)) := by rw [(bcell k1).1 _ _ (by first | (simp; done) | (simp; omega))]; simp [go_sem]
      have q1 : w.heap.size < w1.heap.size := by have := k1.size; simp at this; omega
      clear k1
      replace d0 := cell_step b1 d0
      replace d1 := cell_step b1 d1
      replace d2 := cell_step b1 d2
      go_wp2_with fail
      refine (Hc1.out _).mono ?_
      rintro e w2 ⟨rfl, k2⟩
      have b2 : Below w.heap.size w w2 := below_after k2 b1
      clear k2 c0 c1 c2
      go_wp2_with fail
      refine (Hc2.out _ b2).mono ?_
      rintro e w3 ⟨v', rfl, o3, k3⟩
      have b3 : Below w.heap.size w w3 := below_after k3 b2
      go_wp2
      go_ret2
      exact ⟨_, rfl, by rw [Hs.out]; exact o3.mono b2.size, b3⟩

theorem own_made0 {α : Type} {c : Cod α} {w0 : World} {e : TypeId} {H base : Nat} (hH : w0.heap.size = H) (hb : base ≤ H) : Own c (w0.alloc (.cells #[] e)) base (.slice (some ⟨H, 0, none⟩) 0 0) (pickL false ([] : List α)) :=
  (part_start (c := c) (made0 (size := c.size) hH hb)).own rfl

end Go.Proofs.Ytogdbjalgledpaa
