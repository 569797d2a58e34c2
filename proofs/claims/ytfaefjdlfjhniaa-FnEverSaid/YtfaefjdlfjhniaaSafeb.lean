/- Plain lemmas and contracts that all proofs of this seat lean on: bundle Safeb. -/
import Derived.Test.YtfaefjdlfjhniaaRowd
import Derived.Test.YtfaefjdlfjhniaaLogg
import Derived.Test.YtfaefjdlfjhniaaCopyl
import Derived.Deep.RegionWith
import Derived.Deep.DeepCutAuto
import Derived.Test.YtfaefjdlfjhniaaEqent
/- spec.SureLog, impl.SureLog. -/
namespace Go.Proofs.Ytfaefjdlfjhniaa
open Go.RowKit

theorem pick_costEntry (q : Bool) (l : List EntryD) (h : costEntryS l ≤ 1048576) : costEntryS (pickL q l) ≤ 1048576 := by
  cases q
  · show costEntryS [] ≤ _
    simp [costEntryS, sumC]
  · exact h

/-- What a leader knows to be committed. -/
def sureL (l : List ReplicaD) (lead : Int) : List EntryD := match l[lead.toNat]? with
  | some r => r.Log.take r.Sure.toNat
  | none => []

theorem sumC_take_le {α : Type} (f : α → Nat) (l : List α) (k : Nat) : sumC f (l.take k) ≤ sumC f l := sumC_le f l k

theorem take_cost (l : List EntryD) (k : Nat) : costEntryS (l.take k) ≤ costEntryS l := by
  have := sumC_le costEntry l k
  unfold costEntryS
  rw [List.length_take]
  omega

theorem sureL_cost {l : List ReplicaD} (hl : costReplicaS l ≤ 1048576) (lead : Int) : costEntryS (sureL l lead) ≤ 1048576 := by
  unfold sureL
  cases h : l[lead.toNat]? with
  | none => show costEntryS [] ≤ _; simp [costEntryS, sumC]
  | some r =>
    obtain ⟨hi, hr⟩ := List.getElem?_eq_some_iff.1 h
    have h1 := rep_le hl hi
    rw [hr] at h1
    exact Nat.le_trans (take_cost _ _) h1

set_option maxRecDepth 100000 in
/-- impl.Replica.sure -/
theorem repSure_any (up : Bool) (p : Option Addr) (n c m : Nat) (hn : (n : Int) ≤ 1048576) (hc : n ≤ c) (hm : m ≤ n) (w : World) :
    Calls Try.prog 40 #[.agg #[.bool up, .slice p n c, .int .i64 (m : Int)]] w fun e w' => e = .returned (.slice p m c) ∧ Below w.heap.size w w' := by
  have hm2 : (m : Int) ≤ (c : Int) := by omega
  have hm0 : (0 : Int) ≤ (m : Int) := by omega
  go_enter Try.func40, Try.ntmps40
  go_wp2
  go_ret
  exact ⟨rfl, by (repeat (first | (with_reducible exact Below.refl _ _) | (with_reducible refine below_setCell ?_ (by first | (simp; done) | (simp; omega) | omega)) | (with_reducible refine below_alloc _ ?_) | (with_reducible refine below_drewN ?_ _) | (with_reducible assumption) | (with_reducible refine below_after (by assumption) ?_)))⟩

set_option maxRecDepth 100000 in
set_option maxHeartbeats 1600000 in
/-- impl.SureLog -/
theorem sureLog_any (v : Value) (l : List ReplicaD) (term lead : Int) (ht : I64 term) (hd : I64 lead) (hl : costReplicaS l ≤ 1048576) (w : World) (h : Rd Cod.replica w v l) :
    Calls Try.prog 17 #[.agg #[v, .int .i64 term, .int .i64 lead]] w fun e w' => ∃ v', e = .returned (.tuple #[v', .bool (goodGB l term lead && decide (0 ≤ lead))]) ∧ Own Cod.entry w' w.heap.size v' (pickL (goodGB l term lead && decide (0 ≤ lead)) (sureL l lead)) ∧ Below w.heap.size w w' := by
  have Hg := Lib.hid (fun (W : World) (b : Below w.heap.size w W) => goodGroup_any v l term lead ht hd hl W (h.below b))
  have Hq := Lib.hid (goodG_iff (g := ⟨l, term, lead⟩))
  unfold goodG at Hq
  have Hl := Lib.hid hl
  obtain ⟨p, c, rfl, _, _, r⟩ := h.form
  have R := Lib.hid r
  clear r h hl
  obtain ⟨n, hn⟩ : ∃ n : Nat, l.length = n := ⟨_, rfl⟩
  have Hn := Lib.hid hn
  have hnb : (n : Int) ≤ 1048576 := by have := Hl.out; unfold costReplicaS at this; omega
  rw [hn] at Hg ⊢
  clear hn
  obtain ⟨hd1, hd2⟩ := hd
  dsimp only at Hq
  generalize goodGB l term lead = q at *
  cases q
  · go_enter Try.func17, Try.ntmps17
    go_wp2_with fail
    refine (Hg.out _ (by (repeat (first | (with_reducible exact Below.refl _ _) | (with_reducible refine below_setCell ?_ (by first | (simp; done) | (simp; omega) | omega)) | (with_reducible refine below_alloc _ ?_) | (with_reducible refine below_drewN ?_ _) | (with_reducible assumption) | (with_reducible refine below_after (by assumption) ?_))))).mono ?_
    rintro e w1 ⟨rfl, k1⟩
    have b1 : Below w.heap.size w w1 := below_after k1 (by (repeat (first | (with_reducible exact Below.refl _ _) | (with_reducible refine below_setCell ?_ (by first | (simp; done) | (simp; omega) | omega)) | (with_reducible refine below_alloc _ ?_) | (with_reducible refine below_drewN ?_ _) | (with_reducible assumption) | (with_reducible refine below_after (by assumption) ?_))))
    clear k1
    go_wp2
    go_ret2
    exact ⟨_, rfl, own_nil _ _ _, b1⟩
  · by_cases hneg : lead < 0
    · have hdec : decide (0 ≤ lead) = false := decide_eq_false (by omega)
      rw [hdec]
      clear hdec
      go_enter Try.func17, Try.ntmps17
      go_wp2_with fail
      refine (Hg.out _ (by (repeat (first | (with_reducible exact Below.refl _ _) | (with_reducible refine below_setCell ?_ (by first | (simp; done) | (simp; omega) | omega)) | (with_reducible refine below_alloc _ ?_) | (with_reducible refine below_drewN ?_ _) | (with_reducible assumption) | (with_reducible refine below_after (by assumption) ?_))))).mono ?_
      rintro e w1 ⟨rfl, k1⟩
      have b1 : Below w.heap.size w w1 := below_after k1 (by (repeat (first | (with_reducible exact Below.refl _ _) | (with_reducible refine below_setCell ?_ (by first | (simp; done) | (simp; omega) | omega)) | (with_reducible refine below_alloc _ ?_) | (with_reducible refine below_drewN ?_ _) | (with_reducible assumption) | (with_reducible refine below_after (by assumption) ?_))))
      have hx1 := bcell k1
      go_wp2
      go_ret2
      exact ⟨_, rfl, own_nil _ _ _, b1⟩
    · obtain ⟨m, rfl⟩ : ∃ m : Nat, lead = (m : Int) := ⟨lead.toNat, by omega⟩
      have hml : m < l.length := by
        rcases (Hq.out.1 rfl).2.2.2 with h | ⟨L, x, h, h1, _⟩
        · omega
        · have := (List.getElem?_eq_some_iff.1 h1).1; omega
      have hgood := (Hq.out.1 rfl).2.2.1 l[m] (List.getElem_mem hml)
      have hel := rep_le Hl.out hml
      have Hs : Hid (sureL l (m : Int) = l[m].Log.take l[m].Sure.toNat) := Lib.hid (by unfold sureL; rw [Int.toNat_natCast, List.getElem?_eq_getElem hml])
      obtain ⟨g, o, rfl, hg, hc⟩ := R.out (by omega)
      have at0 := hc m hml
      have hmk : (m : Int) < (n : Int) := by have := Hn.out; omega
      have hm0 : (0 : Int) ≤ (m : Int) := by omega
      have hdec : decide (0 ≤ (m : Int)) = true := decide_eq_true hm0
      rw [hdec]
      clear hdec hc
      obtain ⟨y, es⟩ : ∃ y, l[m] = y := ⟨_, rfl⟩
      rw [es] at at0 Hs hgood hel
      clear es
      obtain ⟨d0, ⟨u, d1, rr⟩, d2, _⟩ := at_replica at0
      rw [show o + m * Cod.replica.size = o + m * 3 from rfl] at *
      obtain ⟨pr, cr, rfl, hlc, -, -⟩ := rr.form
      obtain ⟨s, hs⟩ : ∃ s : Nat, y.Sure = (s : Int) := ⟨y.Sure.toNat, by omega⟩
      rw [hs] at d2 hgood Hs
      rw [Int.toNat_natCast] at Hs
      have hsl : s ≤ y.Log.length := by omega
      have Hln : y.Log.length ≤ 1048576 := by unfold costEntryS at hel; omega
      have Hc1 := Lib.hid (fun (W : World) => repSure_any y.Up pr y.Log.length cr s (by omega) hlc hsl W)
      have Hc2 := Lib.hid (fun (W : World) (b : Below w.heap.size w W) => copyEntries_any (.slice pr s cr) (y.Log.take s) (Nat.le_trans (take_cost _ _) hel) W ((rr.take s hsl).below b))
      clear at0 hml rr hgood hs hel hsl hlc Hln
      generalize y.Log.length = nl at *
      go_enter Try.func17, Try.ntmps17
      go_wp2_with fail
      refine (Hg.out _ (by (repeat (first | (with_reducible exact Below.refl _ _) | (with_reducible refine below_setCell ?_ (by first | (simp; done) | (simp; omega) | omega)) | (with_reducible refine below_alloc _ ?_) | (with_reducible refine below_drewN ?_ _) | (with_reducible assumption) | (with_reducible refine below_after (by assumption) ?_))))).mono ?_
      rintro e w1 ⟨rfl, k1⟩
      have b1 : Below w.heap.size w w1 := below_after k1 (by (repeat (first | (with_reducible exact Below.refl _ _) | (with_reducible refine below_setCell ?_ (by first | (simp; done) | (simp; omega) | omega)) | (with_reducible refine below_alloc _ ?_) | (with_reducible refine below_drewN ?_ _) | (with_reducible assumption) | (with_reducible refine below_after (by assumption) ?_))))
      have c0 : w1.cell? ⟨w.heap.size, 0, none⟩ = some (.slice (some ⟨g, o, none⟩) n c) := by rw [(bcell k1).1 _ _ (by first | (simp; done) | (simp; omega))]; simp [go_sem]
      have c1 : w1.cell? ⟨w.heap.size, 1, none⟩ = some (.int .i64 term) := by rw [(bcell k1).1 _ _ (by first | (simp; done) | (simp; omega))]; simp [go_sem]
      have c2 : w1.cell? ⟨w.heap.size, 2, none⟩ = some (.int .i64 (m : Int)) := by rw [(bcell k1).1 _ _ (by first | (simp; done) | (simp; omega))]; simp [go_sem]
      have q1 : w.heap.size < w1.heap.size := by have := k1.size; simp at this; omega
      clear k1
      replace d0 := cell_step b1 d0
      replace d1 := cell_step b1 d1
      replace d2 := cell_step b1 d2
      go_wp2_with fail
      refine (Hc1.out _).mono ?_
      rintro e w2 ⟨rfl, k2⟩
      have b2 : Below w.heap.size w w2 := below_after k2 b1
      clear k2 c0 c1 c2
      go_wp2_with fail
      refine (Hc2.out _ b2).mono ?_
      rintro e w3 ⟨v', rfl, o3, k3⟩
      have b3 : Below w.heap.size w w3 := below_after k3 b2
      go_wp2
      go_ret2
      exact ⟨_, rfl, by rw [Hs.out]; exact o3.mono b2.size, b3⟩

theorem own_made0 {α : Type} {c : Cod α} {w0 : World} {e : TypeId} {H base : Nat} (hH : w0.heap.size = H) (hb : base ≤ H) : Own c (w0.alloc (.cells #[] e)) base (.slice (some ⟨H, 0, none⟩) 0 0) (pickL false ([] : List α)) :=
  (part_start (c := c) (made0 (size := c.size) hH hb)).own rfl

end Go.Proofs.Ytfaefjdlfjhniaa


/- IsSafe: plain, impl. -/
namespace Go.Proofs.Ytfaefjdlfjhniaa
open Go.RowKit

/-- What a replica knows to be committed. -/
def sureOf (x : ReplicaD) : List EntryD := x.Log.take x.Sure.toNat
def okP (x y : ReplicaD) : Prop := sureOf x <+: sureOf y ∨ sureOf y <+: sureOf x
def ledP (l : List ReplicaD) (lead : Int) (x : ReplicaD) : Prop := ∀ (L : Nat) z, lead = (L : Int) → l[L]? = some z → sureOf x <+: z.Log

theorem safe_iff {l : List ReplicaD} {term lead : Int} : Safe ⟨l, term, lead⟩ ↔ ∀ x ∈ l, (∀ y ∈ l, okP x y) ∧ ledP l lead x := Iff.rfl

theorem beg_ok {x y : ReplicaD} {s t : Nat} (hs : x.Sure = (s : Int)) (ht : y.Sure = (t : Int)) (hx : s ≤ x.Log.length) (hy : t ≤ y.Log.length) : begB x.Log y.Log (min s t) = pB (okP x y) := by
  unfold begB okP sureOf
  rw [hs, ht, Int.toNat_natCast, Int.toNat_natCast]
  refine pB_congr ⟨fun ⟨_, _, h⟩ => ?_, fun h => ⟨by omega, by omega, ?_⟩⟩
  · rcases Nat.le_total s t with e | e
    · rw [Nat.min_eq_left e] at h
      exact Or.inl (by rw [h, show y.Log.take s = (y.Log.take t).take s from by rw [List.take_take, Nat.min_eq_left e]]; exact List.take_prefix _ _)
    · rw [Nat.min_eq_right e] at h
      exact Or.inr (by rw [← h, show x.Log.take t = (x.Log.take s).take t from by rw [List.take_take, Nat.min_eq_left e]]; exact List.take_prefix _ _)
  · have hc : ∀ {a b : List EntryD} {p q : Nat}, p ≤ a.length → q ≤ b.length → a.take p <+: b.take q → p ≤ q ∧ a.take p = b.take p := fun {a b p q} h1 h2 h3 => by
      have h4 := h3.length_le
      rw [List.length_take, List.length_take] at h4
      have hpq : p ≤ q := by omega
      refine ⟨hpq, ?_⟩
      rw [List.prefix_iff_eq_take.1 h3, List.length_take, List.take_take]
      congr 1
      omega
    rcases h with h | h
    · obtain ⟨h1, h2⟩ := hc hx hy h
      rw [Nat.min_eq_left h1, h2]
    · obtain ⟨h1, h2⟩ := hc hy hx h
      rw [Nat.min_eq_right h1, h2]

theorem beg_led {x z : ReplicaD} {s : Nat} (hs : x.Sure = (s : Int)) (hx : s ≤ x.Log.length) : begB z.Log x.Log s = pB (sureOf x <+: z.Log) := by
  unfold begB sureOf
  rw [hs, Int.toNat_natCast]
  refine pB_congr ⟨fun ⟨h1, _, h⟩ => by rw [← h]; exact List.take_prefix _ _, fun h => ?_⟩
  have h1 := h.length_le
  rw [List.length_take] at h1
  refine ⟨by omega, by omega, ?_⟩
  have h2 := List.prefix_iff_eq_take.1 h
  rw [List.length_take, Nat.min_eq_left hx] at h2
  exact h2.symm

theorem good_sure {l : List ReplicaD} {term lead : Int} (h : goodGB l term lead = true) {x : ReplicaD} (hx : x ∈ l) : ∃ s : Nat, x.Sure = (s : Int) ∧ s ≤ x.Log.length := by
  have h1 := ((goodG_iff (g := ⟨l, term, lead⟩)).1 h).2.2.1 x hx
  exact ⟨x.Sure.toNat, by omega, by omega⟩

theorem log_costs {l : List ReplicaD} (hl : costReplicaS l ≤ 1048576) {x : ReplicaD} (hx : x ∈ l) : costEntryS x.Log ≤ 1048576 := by
  obtain ⟨k, hk, rfl⟩ := List.getElem_of_mem hx
  exact rep_le hl hk

set_option maxRecDepth 100000 in
set_option maxHeartbeats 6400000 in
/-- impl.IsSafe -/
theorem isSafe_any (v : Value) (l : List ReplicaD) (term lead : Int) (ht : I64 term) (hd : I64 lead) (hl : costReplicaS l ≤ 1048576) (w : World) (h : Rd Cod.replica w v l) :
    Calls Try.prog 18 #[.agg #[v, .int .i64 term, .int .i64 lead]] w fun e w' => e = .returned (.bool (goodGB l term lead && pB (Safe ⟨l, term, lead⟩))) ∧ Below w.heap.size w w' := by
  have Hg := Lib.hid (fun (W : World) (b : Below w.heap.size w W) => goodGroup_any v l term lead ht hd hl W (h.below b))
  have Hq : Hid (goodGB l term lead = true → goodGB l term lead = true) := Lib.hid id
  have HL : Hid (goodGB l term lead = true → ¬ lead < 0 → ∃ m : Nat, lead = (m : Int) ∧ m < l.length) := Lib.hid (fun h0 hn => by
    rcases ((goodG_iff (g := ⟨l, term, lead⟩)).1 h0).2.2.2 with h | ⟨L, x, h, h1, _⟩
    · exact absurd (show lead < 0 from by show lead < 0; have : lead = -1 := h; omega) hn
    · exact ⟨L, h, (List.getElem?_eq_some_iff.1 h1).1⟩)
  have HS : Hid (goodGB l term lead = true → ∀ x ∈ l, ∃ s : Nat, x.Sure = (s : Int) ∧ s ≤ x.Log.length) := Lib.hid (fun h x hx => good_sure h hx)
  have Hl := Lib.hid hl
  obtain ⟨p, c, rfl, _, _, r⟩ := h.form
  have R := Lib.hid r
  clear r h Hq
  obtain ⟨n, hn⟩ : ∃ n : Nat, l.length = n := ⟨_, rfl⟩
  have Hn := Lib.hid hn
  have hnb : (n : Int) ≤ 1048576 := by unfold costReplicaS at hl; omega
  rw [hn] at Hg ⊢
  clear hn hl
  obtain ⟨hd1, hd2⟩ := hd
  generalize goodGB l term lead = q at *
  cases q
  · go_enter Try.func18, Try.ntmps18
    go_wp2_with fail
    refine (Hg.out _ (by (repeat (first | (with_reducible exact Below.refl _ _) | (with_reducible refine below_setCell ?_ (by first | (simp; done) | (simp; omega) | omega)) | (with_reducible refine below_alloc _ ?_) | (with_reducible refine below_drewN ?_ _) | (with_reducible assumption) | (with_reducible refine below_after (by assumption) ?_))))).mono ?_
    rintro e w1 ⟨rfl, k1⟩
    go_wp2
    go_ret
    exact ⟨rfl, below_after k1 (by (repeat (first | (with_reducible exact Below.refl _ _) | (with_reducible refine below_setCell ?_ (by first | (simp; done) | (simp; omega) | omega)) | (with_reducible refine below_alloc _ ?_) | (with_reducible refine below_drewN ?_ _) | (with_reducible assumption) | (with_reducible refine below_after (by assumption) ?_))))⟩
  have Hs := Lib.hid (HS.out rfl)
  have HLd := Lib.hid (HL.out rfl)
  clear HS HL
  obtain ⟨P, hP⟩ : ∃ P, pB (Safe ⟨l, term, lead⟩) = P := ⟨_, rfl⟩
  rw [hP, Bool.true_and]
  have HT : Hid ((∀ x ∈ l, (∀ y ∈ l, okP x y) ∧ ledP l lead x) → P = true) := Lib.hid (fun h => by rw [← hP]; exact pB_true (safe_iff.2 h))
  have HF1 : Hid (∀ x ∈ l, ∀ y ∈ l, ¬ okP x y → P = false) := Lib.hid (fun x hx y hy h => by rw [← hP]; exact pB_false fun k => h ((safe_iff.1 k x hx).1 y hy))
  have HF2 : Hid (∀ x ∈ l, ¬ ledP l lead x → P = false) := Lib.hid (fun x hx h => by rw [← hP]; exact pB_false fun k => h (safe_iff.1 k x hx).2)
  clear hP
  go_enter Try.func18, Try.ntmps18
  go_wp2_with fail
  refine (Hg.out _ (by (repeat (first | (with_reducible exact Below.refl _ _) | (with_reducible refine below_setCell ?_ (by first | (simp; done) | (simp; omega) | omega)) | (with_reducible refine below_alloc _ ?_) | (with_reducible refine below_drewN ?_ _) | (with_reducible assumption) | (with_reducible refine below_after (by assumption) ?_))))).mono ?_
  rintro e w1 ⟨rfl, k1⟩
  have b1 : Below w.heap.size w w1 := below_after k1 (by (repeat (first | (with_reducible exact Below.refl _ _) | (with_reducible refine below_setCell ?_ (by first | (simp; done) | (simp; omega) | omega)) | (with_reducible refine below_alloc _ ?_) | (with_reducible refine below_drewN ?_ _) | (with_reducible assumption) | (with_reducible refine below_after (by assumption) ?_))))
  have c0 : w1.cell? ⟨w.heap.size, 0, none⟩ = some (.slice p n c) := by rw [(bcell k1).1 _ _ (by first | (simp; done) | (simp; omega))]; simp [go_sem]
  have c2 : w1.cell? ⟨w.heap.size, 2, none⟩ = some (.int .i64 lead) := by rw [(bcell k1).1 _ _ (by first | (simp; done) | (simp; omega))]; simp [go_sem]
  have q1 : w.heap.size < w1.heap.size := by have := k1.size; simp at this; omega
  clear k1
  go_wp2
  go_loopw [13] (fun i wr => ∃ k : Nat, i = .int .i64 (k : Int) ∧ k ≤ n ∧ Hid (∀ j (h : j < l.length), j < k → (∀ y ∈ l, okP l[j] y) ∧ ledP l lead l[j]) ∧ (wr.cell? ⟨w.heap.size, 0, none⟩ = some (.slice p n c) ∧ wr.cell? ⟨w.heap.size, 2, none⟩ = some (.int .i64 lead)) ∧ w.heap.size < wr.heap.size ∧ Below w.heap.size w wr) (fun i _ => n - (intOf i).toNat)
  case atStart => exact ⟨0, rfl, Nat.zero_le _, Lib.hid (fun j _ h => by omega), ⟨c0, c2⟩, q1, b1⟩
  case round =>
    clear c0 c2 q1 b1
    obtain ⟨k, rfl, hk, Hall, ⟨c0, c2⟩, q1, hb⟩ := hrel
    obtain ⟨wo, rfl⟩ : ∃ wo : World, wo = wr := ⟨_, rfl⟩
    by_cases hlt : k < n
    · have hlt2 : (k : Int) < (n : Int) := by omega
      have hkl : k < l.length := by have := Hn.out; omega
      obtain ⟨g, o, rfl, hg, hc⟩ := R.out (by omega)
      have at0 := (hc k hkl).below hg hb
      have Hc := Lib.hid hc
      have hgl : g < wo.heap.size := by have := hb.size; omega
      have hmx := List.getElem_mem hkl
      obtain ⟨x, es⟩ : ∃ x, l[k] = x := ⟨_, rfl⟩
      rw [es] at at0 hmx
      have HxM := Lib.hid hmx
      have Hxe := Lib.hid es
      have HxC := Lib.hid (log_costs Hl.out hmx)
      obtain ⟨s, hs, hsl⟩ := Hs.out x hmx
      have Hsx := Lib.hid hs
      obtain ⟨d0, ⟨u, d1, rr⟩, d2, _⟩ := at_replica at0
      rw [show o + k * Cod.replica.size = o + k * 3 from rfl] at *
      obtain ⟨pr, cr, rfl, hlc, -, -⟩ := rr.form
      rw [hs] at d2
      have hLn : (x.Log.length : Int) ≤ 1048576 := by have := HxC.out; unfold costEntryS at this; omega
      have Hcx := Lib.hid (fun (W : World) => repSure_any x.Up pr x.Log.length cr s hLn hlc hsl W)
      have Hrx : Hid (∀ W, Below wo.heap.size wo W → Rd Cod.entry W (.slice pr s cr) (sureOf x)) := Lib.hid (fun W b => by
        unfold sureOf
        rw [Hsx.out, Int.toNat_natCast]
        exact (rr.take s hsl).below b)
      have HxS : Hid (costEntryS (sureOf x) ≤ 1048576) := Lib.hid (Nat.le_trans (costEntry_take _ _) HxC.out)
      clear hc es hmx at0 hs hsl hlc hLn rr
      generalize x.Log.length = nx at *
      generalize x.Up = ux at *
      go_wp2
      obtain ⟨wa, ha⟩ : ∃ wa, wo.alloc (.cells #[.bool ux, .slice pr nx cr, .int .i64 (s : Int)] 50) = wa := ⟨_, rfl⟩
      have a0 : wa.cell? ⟨wo.heap.size, 0, none⟩ = some (.bool ux) := by rw [← ha]; simp [go_sem]
      have a1 : wa.cell? ⟨wo.heap.size, 1, none⟩ = some (.slice pr nx cr) := by rw [← ha]; simp [go_sem]
      have a2 : wa.cell? ⟨wo.heap.size, 2, none⟩ = some (.int .i64 (s : Int)) := by rw [← ha]; simp [go_sem]
      have ba : Below wo.heap.size wo wa := by rw [← ha]; exact below_new _ _
      have za : wo.heap.size < wa.heap.size := by rw [← ha]; simp
      rw [ha]
      clear ha
      replace c0 := cell_step ba c0
      replace c2 := cell_step ba c2
      have bwa : Below w.heap.size w wa := below_after ba hb
      go_loopw [20] (fun i wq => ∃ m : Nat, i = .int .i64 (m : Int) ∧ m ≤ n ∧ Hid (∀ j (h : j < l.length), j < m → okP x l[j]) ∧ (wq.cell? ⟨w.heap.size, 0, none⟩ = some (.slice (some ⟨g, o, none⟩) n c) ∧ wq.cell? ⟨w.heap.size, 2, none⟩ = some (.int .i64 lead)) ∧
        (wq.cell? ⟨wo.heap.size, 0, none⟩ = some (.bool ux) ∧ wq.cell? ⟨wo.heap.size, 1, none⟩ = some (.slice pr nx cr) ∧ wq.cell? ⟨wo.heap.size, 2, none⟩ = some (.int .i64 (s : Int))) ∧ wo.heap.size < wq.heap.size ∧ Below wo.heap.size wo wq) (fun i _ => n - (intOf i).toNat)
      case atStart => exact ⟨0, rfl, Nat.zero_le _, Lib.hid (fun j _ h => by omega), ⟨c0, c2⟩, ⟨a0, a1, a2⟩, za, ba⟩
      case round =>
        clear c0 c2 a0 a1 a2 ba za bwa
        obtain ⟨m, rfl, hm, Hall2, ⟨c0, c2⟩, ⟨a0, a1, a2⟩, za, bq⟩ := hrel
        obtain ⟨wq, rfl⟩ : ∃ wq : World, wq = wr := ⟨_, rfl⟩
        have bwq : Below w.heap.size w wq := below_after bq hb
        by_cases hltm : m < n
        · have hltm2 : (m : Int) < (n : Int) := by omega
          have hml : m < l.length := by have := Hn.out; omega
          have aty := ((Hc.out m hml).below hg hb).below hgl bq
          have hmy := List.getElem_mem hml
          obtain ⟨y, et⟩ : ∃ y, l[m] = y := ⟨_, rfl⟩
          rw [et] at aty hmy
          have HyC := Lib.hid (log_costs Hl.out hmy)
          obtain ⟨t, hts, htl⟩ := Hs.out y hmy
          have Hty := Lib.hid hts
          obtain ⟨e0, ⟨u, e1, ry⟩, e2, _⟩ := at_replica aty
          rw [show o + m * Cod.replica.size = o + m * 3 from rfl] at *
          obtain ⟨py, cy, rfl, hyc, -, -⟩ := ry.form
          rw [hts] at e2
          have hLn : (y.Log.length : Int) ≤ 1048576 := by have := HyC.out; unfold costEntryS at this; omega
          have Hcy := Lib.hid (fun (W : World) => repSure_any y.Up py y.Log.length cy t hLn hyc htl W)
          have Hry : Hid (∀ W, Below wq.heap.size wq W → Rd Cod.entry W (.slice py t cy) (sureOf y)) := Lib.hid (fun W b => by
            unfold sureOf
            rw [Hty.out, Int.toNat_natCast]
            exact (ry.take t htl).below b)
          have HyS : Hid (costEntryS (sureOf y) ≤ 1048576) := Lib.hid (Nat.le_trans (costEntry_take _ _) HyC.out)
          have Hp1 : Hid (∀ W, Below wq.heap.size wq W → Calls Try.prog 39 #[.slice pr s cr, .slice py t cy] W fun e w' => e = .returned (.bool (pB (sureOf y <+: sureOf x))) ∧ Below W.heap.size W w') := Lib.hid (fun W b => hasPrefix_any (.slice pr s cr) (.slice py t cy) (sureOf x) (sureOf y) HxS.out HyS.out W ((Hrx.out wq bq).below b) (Hry.out W b))
          have Hp2 : Hid (∀ W, Below wq.heap.size wq W → Calls Try.prog 39 #[.slice py t cy, .slice pr s cr] W fun e w' => e = .returned (.bool (pB (sureOf x <+: sureOf y))) ∧ Below W.heap.size W w') := Lib.hid (fun W b => hasPrefix_any (.slice py t cy) (.slice pr s cr) (sureOf y) (sureOf x) HyS.out HxS.out W (Hry.out W b) ((Hrx.out wq bq).below b))
          have Hok1 : Hid (pB (sureOf y <+: sureOf x) = true → okP x y) := Lib.hid (fun h => Or.inr (pB_iff.1 h))
          have Hok2 : Hid (pB (sureOf x <+: sureOf y) = true → okP x y) := Lib.hid (fun h => Or.inl (pB_iff.1 h))
          have Hno : Hid (pB (sureOf y <+: sureOf x) = false → pB (sureOf x <+: sureOf y) = false → P = false) := Lib.hid (fun h1 h2 => HF1.out x HxM.out y hmy (fun h => by
            rcases h with h | h
            · rw [pB_true h] at h2; cases h2
            · rw [pB_true h] at h1; cases h1))
          have Hnx : Hid (okP x y → ∀ j (h : j < l.length), j < m + 1 → okP x l[j]) := Lib.hid (fun h j hj hjm => by
            by_cases e : j = m
            · subst e; rw [et]; exact h
            · exact Hall2.out j hj (by omega))
          clear et hml hmy aty hts htl hyc hLn ry
          generalize y.Log.length = ny at *
          generalize y.Up = uy at *
          generalize pB (sureOf y <+: sureOf x) = g1 at *
          generalize pB (sureOf x <+: sureOf y) = g2 at *
          go_upto_region 9 with fail
          obtain ⟨wb, hwb⟩ : ∃ wb, wq.alloc (.cells #[.bool uy, .slice py ny cy, .int .i64 (t : Int)] 50) = wb := ⟨_, rfl⟩
          have v0 : wb.cell? ⟨wq.heap.size, 0, none⟩ = some (.bool uy) := by rw [← hwb]; simp [go_sem]
          have v1 : wb.cell? ⟨wq.heap.size, 1, none⟩ = some (.slice py ny cy) := by rw [← hwb]; simp [go_sem]
          have v2 : wb.cell? ⟨wq.heap.size, 2, none⟩ = some (.int .i64 (t : Int)) := by rw [← hwb]; simp [go_sem]
          have bb : Below wq.heap.size wq wb := by rw [← hwb]; exact below_new _ _
          have zb : wq.heap.size < wb.heap.size := by rw [← hwb]; simp
          rw [hwb]
          clear hwb e0 e1 e2
          replace c0 := cell_step bb c0
          replace c2 := cell_step bb c2
          replace a0 := cell_step bb a0
          replace a1 := cell_step bb a1
          replace a2 := cell_step bb a2
          have za2 : wo.heap.size < wb.heap.size := Nat.lt_trans za zb
          have zw2 : w.heap.size < wb.heap.size := by have := hb.size; omega
          have bqb : Below wo.heap.size wo wb := below_after bb bq
          have Hx1 : Hid (∀ u, Below wq.heap.size wq (ext wb.heap.size wb u)) := Lib.hid (fun u => bb.trans ((ext_below wb.heap.size wb u).mono bb.size))
          clear bb
          cases g1 <;> cases g2
          all_goals
            refine wp_region_ext (by kernel_rfl) (by kernel_rfl) wb.heap.size ?_
            have hx2 := fun (u : World) (b o : Nat) (h : b < wb.heap.size) => ext_cell wb u b o h
            repeat (any_goals (go_big_quiet_step (first
              | (go_at_call 40; (first | (with_reducible refine calls_ext ?_ (Hcx.out _)) | (with_reducible refine calls_ext ?_ (Hcy.out _))); first | exact Nat.le_refl _ | (simp; done))
              | (go_at_call 39; (first | (with_reducible refine calls_ext ?_ (Hp1.out _ (Hx1.out _))) | (with_reducible refine calls_ext ?_ (Hp2.out _ (Hx1.out _)))); first | exact Nat.le_refl _ | (simp; done)))))
            refine wpQuiet_nil ?_
            intro w2 hb2
            clear hx2
            replace c0 := cell_step hb2 c0
            replace c2 := cell_step hb2 c2
            replace a0 := cell_step hb2 a0
            replace a1 := cell_step hb2 a1
            replace a2 := cell_step hb2 a2
            have bn : Below wo.heap.size wo w2 := below_after hb2 bqb
          · have Hq := Lib.hid (Hno.out rfl rfl)
            go_wp2
            go_ret
            exact ⟨ret_bool (by rw [Hq.out]), below_after bn hb⟩
          · have Hq := Lib.hid (Hnx.out (Hok2.out rfl))
            go_wp2
            go_roundw
            case rel => exact ⟨m + 1, by go_num, by omega, Hq, ⟨c0, c2⟩, ⟨a0, a1, a2⟩, Nat.lt_of_lt_of_le za2 hb2.size, bn⟩
            case measure => simp [intOf]; omega
          · have Hq := Lib.hid (Hnx.out (Hok1.out rfl))
            go_wp2
            go_roundw
            case rel => exact ⟨m + 1, by go_num, by omega, Hq, ⟨c0, c2⟩, ⟨a0, a1, a2⟩, Nat.lt_of_lt_of_le za2 hb2.size, bn⟩
            case measure => simp [intOf]; omega
          · have Hq := Lib.hid (Hnx.out (Hok1.out rfl))
            go_wp2
            go_roundw
            case rel => exact ⟨m + 1, by go_num, by omega, Hq, ⟨c0, c2⟩, ⟨a0, a1, a2⟩, Nat.lt_of_lt_of_le za2 hb2.size, bn⟩
            case measure => simp [intOf]; omega
        · have hltm2 : (n : Int) ≤ (m : Int) := by omega
          obtain rfl : m = n := by omega
          have HxA : Hid (∀ y ∈ l, okP x y) := Lib.hid (fun y hy => by
            obtain ⟨j, hj, rfl⟩ := List.getElem_of_mem hy
            exact Hall2.out j hj (by have := Hn.out; omega))
          by_cases hneg : lead < 0
          · have hd0 : decide (0 ≤ lead) = false := decide_eq_false (by omega)
            have Hq : Hid (∀ j (h : j < l.length), j < k + 1 → (∀ y ∈ l, okP l[j] y) ∧ ledP l lead l[j]) := Lib.hid (fun j hj hjk => by
              by_cases e : j = k
              · subst e
                rw [Hxe.out]
                exact ⟨HxA.out, fun L z hL => by omega⟩
              · exact Hall.out j hj (by omega))
            have zq : w.heap.size < wq.heap.size := by have := hb.size; omega
            go_upto_region 12 with fail
            refine wp_region_ext (by kernel_rfl) (by kernel_rfl) wq.heap.size ?_
            have hx2 := fun (u : World) (b o : Nat) (h : b < wq.heap.size) => ext_cell wq u b o h
            repeat (any_goals (go_big_quiet_step (first
              | (go_at_call 40; (with_reducible refine calls_ext ?_ (Hcx.out _)); first | exact Nat.le_refl _ | (simp; done)))))
            refine wpQuiet_nil ?_
            intro w2 hb2
            clear hx2
            replace c0 := cell_step hb2 c0
            replace c2 := cell_step hb2 c2
            go_wp2
            go_roundw
            case rel => exact ⟨k + 1, by go_num, by omega, Hq, ⟨c0, c2⟩, Nat.lt_of_lt_of_le zq hb2.size, below_after hb2 bwq⟩
            case measure => simp [intOf]; omega
          · obtain ⟨L, rfl, hLl⟩ := HLd.out (by omega)
            have hd0 : decide (0 ≤ (L : Int)) = true := decide_eq_true (by omega)
            have hLn : (L : Int) < (m : Int) := by have := Hn.out; omega
            have hL0 : (0 : Int) ≤ (L : Int) := by omega
            have atz := ((Hc.out L hLl).below hg hb).below hgl bq
            have hmz := List.getElem_mem hLl
            have hz? : l[L]? = some l[L] := List.getElem?_eq_getElem hLl
            obtain ⟨z, ez⟩ : ∃ z, l[L] = z := ⟨_, rfl⟩
            rw [ez] at atz hmz hz?
            have HzC := Lib.hid (log_costs Hl.out hmz)
            obtain ⟨_, ⟨u, e1, rz⟩, _⟩ := at_replica atz
            rw [show o + L * Cod.replica.size = o + L * 3 from rfl] at *
            obtain ⟨pz, cz, rfl, -⟩ := rz.form
            have Hpz : Hid (∀ W, Below wq.heap.size wq W → Calls Try.prog 39 #[.slice pz z.Log.length cz, .slice pr s cr] W fun e w' => e = .returned (.bool (pB (sureOf x <+: z.Log))) ∧ Below W.heap.size W w') := Lib.hid (fun W b => hasPrefix_any _ _ _ _ HzC.out HxS.out W (rz.below b) ((Hrx.out wq bq).below b))
            have Hyes : Hid (pB (sureOf x <+: z.Log) = true → ledP l (L : Int) x) := Lib.hid (fun h L' z' e1 e2 => by
              obtain rfl : L' = L := by omega
              rw [hz?] at e2
              injection e2 with e2
              subst e2
              exact pB_iff.1 h)
            have Hno : Hid (pB (sureOf x <+: z.Log) = false → P = false) := Lib.hid (fun h => HF2.out x HxM.out (fun k => by
              rw [pB_true (k L z rfl hz?)] at h
              cases h))
            have Hnx : Hid (ledP l (L : Int) x → ∀ j (h : j < l.length), j < k + 1 → (∀ y ∈ l, okP l[j] y) ∧ ledP l (L : Int) l[j]) := Lib.hid (fun h j hj hjk => by
              by_cases e : j = k
              · subst e
                rw [Hxe.out]
                exact ⟨HxA.out, h⟩
              · exact Hall.out j hj (by omega))
            clear atz hmz hz? ez rz hLl hneg
            generalize z.Log.length = nz at *
            generalize pB (sureOf x <+: z.Log) = g1 at *
            have zq : w.heap.size < wq.heap.size := by have := hb.size; omega
            have hgq : g < wq.heap.size := by have := bq.size; omega
            cases g1
            all_goals
              go_upto_region 12 with fail
              refine wp_region_ext (by kernel_rfl) (by kernel_rfl) wq.heap.size ?_
              have hx2 := fun (u : World) (b o : Nat) (h : b < wq.heap.size) => ext_cell wq u b o h
              repeat (any_goals (go_big_quiet_step (first
                | (go_at_call 40; (with_reducible refine calls_ext ?_ (Hcx.out _)); first | exact Nat.le_refl _ | (simp; done))
                | (go_at_call 39; (with_reducible refine calls_ext ?_ (Hpz.out _ (ext_below _ _ _))); first | exact Nat.le_refl _ | (simp; done)))))
              refine wpQuiet_nil ?_
              intro w2 hb2
              clear hx2
              replace c0 := cell_step hb2 c0
              replace c2 := cell_step hb2 c2
            · have Hq := Lib.hid (Hno.out rfl)
              go_wp2
              go_ret
              exact ⟨ret_bool (by rw [Hq.out]), below_after hb2 bwq⟩
            · have Hq := Lib.hid (Hnx.out (Hyes.out rfl))
              go_wp2
              go_roundw
              case rel => exact ⟨k + 1, by go_num, by omega, Hq, ⟨c0, c2⟩, Nat.lt_of_lt_of_le zq hb2.size, below_after hb2 bwq⟩
              case measure => simp [intOf]; omega
    · have hlt2 : (n : Int) ≤ (k : Int) := by omega
      obtain rfl : k = n := by omega
      have Hq : Hid (P = true) := Lib.hid (HT.out fun x hx => by
        obtain ⟨j, hj, rfl⟩ := List.getElem_of_mem hx
        exact Hall.out j hj (by have := Hn.out; omega))
      go_wp2
      go_ret
      exact ⟨ret_bool (by rw [Hq.out]), hb⟩

end Go.Proofs.Ytfaefjdlfjhniaa


/- IsSafe: spec. -/
namespace Go.Proofs.Ytfaefjdlfjhniaa
open Go.RowKit

/-- spec.l1Least -/
theorem leastI_any (a b : Int) (w : World) : Calls Try.prog 81 #[.int .i64 a, .int .i64 b] w fun e w' => e = .returned (.int .i64 (min a b)) ∧ w = w' := by
  by_cases h : a < b
  · have hm : min a b = a := by omega
    rw [hm]
    clear hm
    go_enter Try.func81, Try.ntmps81
    go_wp2
    go_ret
    exact ⟨rfl, rfl⟩
  · have hm : min a b = b := by omega
    rw [hm]
    clear hm
    go_enter Try.func81, Try.ntmps81
    go_wp2
    go_ret
    exact ⟨rfl, rfl⟩

end Go.Proofs.Ytfaefjdlfjhniaa

