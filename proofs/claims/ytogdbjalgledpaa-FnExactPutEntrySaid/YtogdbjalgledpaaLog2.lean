/- spec.l9GoodRep. -/
import Derived.Test.YtogdbjalgledpaaLog1
namespace Go.Proofs.Ytogdbjalgledpaa
open Go.RowKit

/-- The term before entry k: 1 at first. -/
def PrevT (l : List EntryD) (k : Nat) (t : Int) : Prop := (k = 0 ∧ t = 1) ∨ ∃ m, ∃ h : m < l.length, m + 1 = k ∧ t = l[m].Term

theorem prev_iff {l : List EntryD} {term t : Int} {k : Nat} (hp : PrevT l k t) (hall : ∀ j, j < k → EntAt l term j) (hk : k < l.length) :
    inB l[k].Term t term = true ↔ (inB l[k].Term 1 term = true ∧ ∀ m (_ : m + 1 = k), (l[m]'(by omega)).Term ≤ l[k].Term) := by
  rw [inB_iff, inB_iff]
  rcases hp with ⟨rfl, rfl⟩ | ⟨m, hm, rfl, rfl⟩
  · exact ⟨fun h => ⟨h, fun m hm => by omega⟩, fun h => h.1⟩
  · have h1 := (inB_iff.1 (hall m (by omega) hm).1).1
    constructor
    · intro h
      exact ⟨by omega, fun m' hm' => by obtain rfl : m' = m := by omega
                                        exact h.1⟩
    · intro h
      have := h.2 m rfl
      omega

set_option maxRecDepth 100000 in
set_option maxHeartbeats 3200000 in
/-- spec.l9GoodRep -/
theorem l9GoodRep_any (x : ReplicaD) (term : Int) (ht : I64 term) (hl : costEntryS x.Log ≤ 1048576) (w : World) (u : Value) (h : Rd Cod.entry w u x.Log) :
    Calls Try.prog 86 #[.agg #[.bool x.Up, u, .int .i64 x.Sure], .int .i64 term] w fun e w' => e = .returned (.bool (pB (GoodLog x.Log term) && inB x.Sure 0 (x.Log.length : Int))) ∧ Below w.heap.size w w' := by
  obtain ⟨up, l, sure⟩ := x
  dsimp only at *
  obtain ⟨p, c, rfl, _, _, r⟩ := h.form
  have R := Lib.hid r
  have Hl := Lib.hid hl
  clear r h
  obtain ⟨n, hn⟩ : ∃ n : Nat, l.length = n := ⟨_, rfl⟩
  have Hn0 := Lib.hid hn
  rw [hn]
  have hnb : (n : Int) ≤ 1048576 := by unfold costEntryS at hl; omega
  obtain ⟨ht1, ht2⟩ := ht
  clear hn hl
  have Hs := Lib.hid (fun W => l1In_any sure 0 (n : Int) W)
  generalize inB sure 0 (n : Int) = qs at *
  by_cases h60 : (n : Int) ≤ 60
  rotate_left
  · have h61 : (60 : Int) < (n : Int) := by omega
    have Hq : Hid (pB (GoodLog l term) = false) := Lib.hid (pB_false fun hr => by have := hr.1; have := Hn0.out; omega)
    go_enter Try.func86, Try.ntmps86
    go_wp2
    go_ret
    exact ⟨ret_bool (by rw [Hq.out]; rfl), by (repeat (first | (with_reducible exact Below.refl _ _) | (with_reducible refine below_setCell ?_ (by first | (simp; done) | (simp; omega) | omega)) | (with_reducible refine below_alloc _ ?_) | (with_reducible refine below_drewN ?_ _) | (with_reducible assumption) | (with_reducible refine below_after (by assumption) ?_)))⟩
  cases qs
  · go_enter Try.func86, Try.ntmps86
    go_wp2_with fail
    refine (Hs.out _).mono ?_
    rintro e w1 ⟨rfl, rfl⟩
    go_wp2
    go_ret
    exact ⟨ret_bool (by simp), by (repeat (first | (with_reducible exact Below.refl _ _) | (with_reducible refine below_setCell ?_ (by first | (simp; done) | (simp; omega) | omega)) | (with_reducible refine below_alloc _ ?_) | (with_reducible refine below_drewN ?_ _) | (with_reducible assumption) | (with_reducible refine below_after (by assumption) ?_)))⟩
  go_enter Try.func86, Try.ntmps86
  go_wp2_with fail
  refine (Hs.out _).mono ?_
  rintro e w1 ⟨rfl, rfl⟩
  go_wp2
  go_loopw [5, 6] (fun a i wr => ∃ (k : Nat) (t : Int), i = .int .i64 (k : Int) ∧ a = .int .i64 t ∧ I64 t ∧ k ≤ n ∧ Hid (PrevT l k t) ∧ Hid (∀ j, j < k → EntAt l term j) ∧ wr.cell? ⟨w.heap.size, 1, none⟩ = some (.slice p n c) ∧ w.heap.size < wr.heap.size ∧ Below w.heap.size w wr) (fun _ i _ => n - (intOf i).toNat)
  case atStart => exact ⟨0, 1, rfl, rfl, ⟨by omega, by omega⟩, Nat.zero_le _, Lib.hid (Or.inl ⟨rfl, rfl⟩), Lib.hid (fun j h => by omega), by simp [go_sem], by simp, by (repeat (first | (with_reducible exact Below.refl _ _) | (with_reducible refine below_setCell ?_ (by first | (simp; done) | (simp; omega) | omega)) | (with_reducible refine below_alloc _ ?_) | (with_reducible refine below_drewN ?_ _) | (with_reducible assumption) | (with_reducible refine below_after (by assumption) ?_)))⟩
  case round =>
    obtain ⟨k, t, rfl, rfl, ⟨hta, htb⟩, hk, Hp, Hall, c1, hsz, hb⟩ := hrel
    by_cases hlt : k < n
    · have hlt2 : (k : Int) < (n : Int) := by omega
      have hkl : k < l.length := by have := Hn0.out; omega
      obtain ⟨g, o, rfl, hg, hc⟩ := R.out (by have := Hn0.out; omega)
      have at0 := (hc k hkl).below hg hb
      have hel := ent_le Hl.out hkl
      have hgl : g < wr.heap.size := by have := hb.size; omega
      have hiff := prev_iff Hp.out Hall.out hkl
      have Hb0 : Hid (inB l[k].Term t term = false → pB (GoodLog l term) = false) := Lib.hid fun h => pB_false fun hr => by
        have h1 := hr.2 k hkl hkl
        rw [hiff.2 ⟨h1.1, h1.2.2⟩] at h
        cases h
      have Hb1 : Hid (goodRB l[k].Rec = false → pB (GoodLog l term) = false) := Lib.hid fun h => pB_false fun hr => by
        have h1 := (hr.2 k hkl hkl).2.1
        rw [h1] at h
        cases h
      have Hn : Hid (inB l[k].Term t term = true → goodRB l[k].Rec = true → ∀ j, j < k + 1 → EntAt l term j) := Lib.hid fun h1 h2 j hj => by
        by_cases e : j = k
        · subst e
          have := hiff.1 h1
          exact fun _ => ⟨this.1, h2, this.2⟩
        · exact Hall.out j (by omega)
      have Hpn : Hid (PrevT l (k + 1) l[k].Term) := Lib.hid (Or.inr ⟨k, hkl, rfl, rfl⟩)
      clear hiff
      obtain ⟨y, es⟩ : ∃ y, l[k] = y := ⟨_, rfl⟩
      rw [es] at at0 Hb0 Hb1 hel Hn Hpn
      obtain ⟨d0, d1, d2, d3, d4, ⟨ur, d5, rr⟩, ⟨uw, d6, rw'⟩, d7, zt, _⟩ := at_entry at0
      rw [show o + k * Cod.entry.size = o + k * 8 from rfl] at *
      obtain ⟨pr, cr, rfl, -⟩ := rr.form
      obtain ⟨pw, cw, rfl, -⟩ := rw'.form
      have Hc0 := Lib.hid (fun W => l1In_any y.Term t term W)
      have Hc1 := Lib.hid (fun (W : World) (b : Below wr.heap.size wr W) => goodRecS_any y.Rec hel.1 hel.2 W _ _ (rr.below b) (rw'.below b))
      clear hc es hkl at0 hel rr rw'
      generalize inB y.Term t term = c0 at *
      generalize goodRB y.Rec = c2 at *
      cases c0
      · have Hq := Lib.hid (Hb0.out (by first | rfl | trivial))
        go_wp2_with fail
        refine (Hc0.out _).mono ?_
        rintro e w2 ⟨rfl, rfl⟩
        go_wp2
        go_ret
        exact ⟨ret_bool (by rw [Hq.out]; rfl), hb⟩
      cases c2
      · have Hq := Lib.hid (Hb1.out (by first | rfl | trivial))
        go_wp2_with fail
        refine (Hc0.out _).mono ?_
        rintro e w2 ⟨rfl, rfl⟩
        go_wp2_with fail
        refine (Hc1.out _ (by (repeat (first | (with_reducible exact Below.refl _ _) | (with_reducible refine below_setCell ?_ (by first | (simp; done) | (simp; omega) | omega)) | (with_reducible refine below_alloc _ ?_) | (with_reducible refine below_drewN ?_ _) | (with_reducible assumption) | (with_reducible refine below_after (by assumption) ?_))))).mono ?_
        rintro e w2 ⟨rfl, k2⟩
        go_wp2
        go_ret
        exact ⟨ret_bool (by rw [Hq.out]; rfl), below_after k2 hb⟩
      have Hq := Lib.hid (Hn.out (by first | rfl | trivial) (by first | rfl | trivial))
      go_wp2_with fail
      refine (Hc0.out _).mono ?_
      rintro e w2 ⟨rfl, rfl⟩
      go_wp2_with fail
      refine (Hc1.out _ (by (repeat (first | (with_reducible exact Below.refl _ _) | (with_reducible refine below_setCell ?_ (by first | (simp; done) | (simp; omega) | omega)) | (with_reducible refine below_alloc _ ?_) | (with_reducible refine below_drewN ?_ _) | (with_reducible assumption) | (with_reducible refine below_after (by assumption) ?_))))).mono ?_
      rintro e w2 ⟨rfl, k2⟩
      replace d0 := cell_step k2 d0
      replace c1 := cell_step k2 c1
      go_wp2
      go_roundw
      case rel => exact ⟨k + 1, y.Term, by go_num, rfl, zt, by omega, Hpn, Hq, c1, Nat.lt_of_lt_of_le hsz k2.size, below_after k2 hb⟩
      case measure => simp [intOf]; omega
    · have hlt2 : (n : Int) ≤ (k : Int) := by omega
      obtain rfl : k = n := by omega
      have Hq : Hid (pB (GoodLog l term) = true) := Lib.hid (pB_true ⟨by have := Hn0.out; omega, fun j hj => Hall.out j (by have := Hn0.out; omega)⟩)
      go_wp2
      go_ret
      exact ⟨ret_bool (by rw [Hq.out]; rfl), hb⟩

end Go.Proofs.Ytogdbjalgledpaa
