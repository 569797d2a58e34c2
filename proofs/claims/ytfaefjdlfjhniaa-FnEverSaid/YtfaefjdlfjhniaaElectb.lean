/- Plain lemmas and contracts that all proofs of this seat lean on: bundle Electb. -/
import Derived.Test.YtfaefjdlfjhniaaLogg
import Derived.Test.YtfaefjdlfjhniaaHeld
import Derived.Test.YtfaefjdlfjhniaaGcopy
import Derived.Test.YtfaefjdlfjhniaaRowd
/- Which log is newer; how many replicas hold to something. -/
namespace Go.Proofs.Ytfaefjdlfjhniaa
open Go.RowKit

theorem newer_gt {a b : List EntryD} (h : lastT b < lastT a) : newerB a b = true := by unfold newerB; rw [decide_eq_true h]; rfl
theorem newer_lt {a b : List EntryD} (h : lastT a < lastT b) : newerB a b = false := by unfold newerB; rw [decide_eq_false (by omega), decide_eq_false (by omega)]; rfl
theorem newer_eq {a b : List EntryD} (h : lastT a = lastT b) : newerB a b = decide (b.length < a.length) := by unfold newerB; rw [decide_eq_false (by omega), decide_eq_true h]; rfl

set_option maxRecDepth 100000 in
/-- impl.lastTerm -/
theorem lastTerm_any (v : Value) (l : List EntryD) (hl : l.length ≤ 1048576) (w : World) (h : Rd Cod.entry w v l) :
    Calls Try.prog 50 #[v] w fun e w' => e = .returned (.int .i64 (lastT l)) ∧ w = w' := by
  obtain ⟨p, c, rfl, _, _, r⟩ := h.form
  rcases Nat.eq_zero_or_pos l.length with h0 | h0
  · obtain rfl := List.eq_nil_of_length_eq_zero h0
    rw [lastT_nil]
    clear r h
    go_enter Try.func50, Try.ntmps50
    go_wp2
    go_ret
    exact ⟨rfl, rfl⟩
  · obtain ⟨n, hn⟩ : ∃ n, l.length = n + 1 := ⟨l.length - 1, by omega⟩
    obtain ⟨g, o, rfl, hg, hc⟩ := r h0
    have hlt := lastT_get hn
    obtain ⟨d0, -⟩ := at_entry (hc n (by omega))
    rw [← hlt, show o + n * Cod.entry.size = o + n * 8 from rfl] at d0
    rw [hn]
    have hnb : (n : Int) ≤ 1048576 := by omega
    have hn0 : (0 : Int) ≤ (n : Int) := by omega
    have hne : (((n : Int) + 1) == 0) = false := by simp; omega
    generalize lastT l = t at *
    clear r h hc hlt hn hl h0
    go_enter Try.func50, Try.ntmps50
    go_wp2
    go_ret
    exact ⟨rfl, rfl⟩

set_option maxRecDepth 100000 in
/-- spec.l9Last -/
theorem l9Last_any (v : Value) (l : List EntryD) (hl : l.length ≤ 1048576) (w : World) (h : Rd Cod.entry w v l) :
    Calls Try.prog 52 #[v] w fun e w' => e = .returned (.int .i64 (lastT l)) ∧ w = w' := by
  obtain ⟨p, c, rfl, _, _, r⟩ := h.form
  rcases Nat.eq_zero_or_pos l.length with h0 | h0
  · obtain rfl := List.eq_nil_of_length_eq_zero h0
    rw [lastT_nil]
    clear r h
    go_enter Try.func52, Try.ntmps52
    go_wp2
    go_ret
    exact ⟨rfl, rfl⟩
  · obtain ⟨n, hn⟩ : ∃ n, l.length = n + 1 := ⟨l.length - 1, by omega⟩
    obtain ⟨g, o, rfl, hg, hc⟩ := r h0
    have hlt := lastT_get hn
    obtain ⟨d0, -⟩ := at_entry (hc n (by omega))
    rw [← hlt, show o + n * Cod.entry.size = o + n * 8 from rfl] at d0
    rw [hn]
    have hnb : (n : Int) ≤ 1048576 := by omega
    have hn0 : (0 : Int) ≤ (n : Int) := by omega
    have hne : (((n : Int) + 1) == 0) = false := by simp; omega
    generalize lastT l = t at *
    clear r h hc hlt hn hl h0
    go_enter Try.func52, Try.ntmps52
    go_wp2
    go_ret
    exact ⟨rfl, rfl⟩

set_option maxRecDepth 100000 in
/-- impl.isNewer -/
theorem isNewer_any (va vb : Value) (a b : List EntryD) (ha : a.length ≤ 1048576) (hb : b.length ≤ 1048576) (w : World) (ra : Rd Cod.entry w va a) (rb : Rd Cod.entry w vb b) :
    Calls Try.prog 30 #[va, vb] w fun e w' => e = .returned (.bool (newerB a b)) ∧ w = w' := by
  have Ha := Lib.hid (lastTerm_any va a ha w ra)
  have Hb := Lib.hid (lastTerm_any vb b hb w rb)
  obtain ⟨p1, c1, rfl, -⟩ := ra.form
  obtain ⟨p2, c2, rfl, -⟩ := rb.form
  have Hg := Lib.hid (newer_gt (a := a) (b := b))
  have Hl := Lib.hid (newer_lt (a := a) (b := b))
  have He := Lib.hid (newer_eq (a := a) (b := b))
  clear ra rb
  generalize newerB a b = q at *
  generalize lastT a = la at *
  generalize lastT b = lb at *
  generalize a.length = na at *
  generalize b.length = nb at *
  rcases Int.lt_trichotomy la lb with h | h | h
  · have Hq := Lib.hid (Hl.out h)
    have hne : (la == lb) = false := by simp; omega
    have hle : la ≤ lb := by omega
    have hd : decide (lb < la) = false := decide_eq_false (by omega)
    clear Hg Hl He
    go_enter Try.func30, Try.ntmps30
    go_wp2_with fail
    refine Ha.out.mono ?_
    rintro e w1 ⟨rfl, rfl⟩
    go_wp2_with fail
    refine Hb.out.mono ?_
    rintro e w1 ⟨rfl, rfl⟩
    go_wp2_with fail
    refine Ha.out.mono ?_
    rintro e w1 ⟨rfl, rfl⟩
    go_wp2_with fail
    refine Hb.out.mono ?_
    rintro e w1 ⟨rfl, rfl⟩
    go_wp2
    go_ret
    exact ⟨ret_bool (by rw [Hq.out]), rfl⟩
  · subst h
    have Hq := Lib.hid (He.out rfl)
    clear Hg Hl He
    go_enter Try.func30, Try.ntmps30
    go_wp2_with fail
    refine Ha.out.mono ?_
    rintro e w1 ⟨rfl, rfl⟩
    go_wp2_with fail
    refine Hb.out.mono ?_
    rintro e w1 ⟨rfl, rfl⟩
    go_wp2_with fail
    refine Ha.out.mono ?_
    rintro e w1 ⟨rfl, rfl⟩
    go_wp2_with fail
    refine Hb.out.mono ?_
    rintro e w1 ⟨rfl, rfl⟩
    go_wp2
    go_ret
    exact ⟨ret_bool (by rw [Hq.out]), rfl⟩
  · have Hq := Lib.hid (Hg.out h)
    clear Hg Hl He
    go_enter Try.func30, Try.ntmps30
    go_wp2_with fail
    refine Ha.out.mono ?_
    rintro e w1 ⟨rfl, rfl⟩
    go_wp2_with fail
    refine Hb.out.mono ?_
    rintro e w1 ⟨rfl, rfl⟩
    go_wp2
    go_ret
    exact ⟨ret_bool (by rw [Hq.out]), rfl⟩

set_option maxRecDepth 100000 in
/-- spec.l9Later -/
theorem l9Later_any (va vb : Value) (a b : List EntryD) (ha : a.length ≤ 1048576) (hb : b.length ≤ 1048576) (w : World) (ra : Rd Cod.entry w va a) (rb : Rd Cod.entry w vb b) :
    Calls Try.prog 32 #[va, vb] w fun e w' => e = .returned (.bool (newerB a b)) ∧ w = w' := by
  have Ha := Lib.hid (l9Last_any va a ha w ra)
  have Hb := Lib.hid (l9Last_any vb b hb w rb)
  obtain ⟨p1, c1, rfl, -⟩ := ra.form
  obtain ⟨p2, c2, rfl, -⟩ := rb.form
  have Hg := Lib.hid (newer_gt (a := a) (b := b))
  have Hl := Lib.hid (newer_lt (a := a) (b := b))
  have He := Lib.hid (newer_eq (a := a) (b := b))
  clear ra rb
  generalize newerB a b = q at *
  generalize lastT a = la at *
  generalize lastT b = lb at *
  generalize a.length = na at *
  generalize b.length = nb at *
  rcases Int.lt_trichotomy la lb with h | h | h
  · have Hq := Lib.hid (Hl.out h)
    have hne : (la != lb) = true := by simp; omega
    have hle : la ≤ lb := by omega
    have hd : decide (lb < la) = false := decide_eq_false (by omega)
    clear Hg Hl He
    go_enter Try.func32, Try.ntmps32
    go_wp2_with fail
    refine Ha.out.mono ?_
    rintro e w1 ⟨rfl, rfl⟩
    go_wp2_with fail
    refine Hb.out.mono ?_
    rintro e w1 ⟨rfl, rfl⟩
    go_wp2_with fail
    refine Ha.out.mono ?_
    rintro e w1 ⟨rfl, rfl⟩
    go_wp2_with fail
    refine Hb.out.mono ?_
    rintro e w1 ⟨rfl, rfl⟩
    go_wp2
    go_ret
    exact ⟨ret_bool (by rw [Hq.out]), rfl⟩
  · subst h
    have Hq := Lib.hid (He.out rfl)
    clear Hg Hl He
    go_enter Try.func32, Try.ntmps32
    go_wp2_with fail
    refine Ha.out.mono ?_
    rintro e w1 ⟨rfl, rfl⟩
    go_wp2_with fail
    refine Hb.out.mono ?_
    rintro e w1 ⟨rfl, rfl⟩
    go_wp2
    go_ret
    exact ⟨ret_bool (by rw [Hq.out]), rfl⟩
  · have Hq := Lib.hid (Hg.out h)
    have hne : (la != lb) = true := by simp; omega
    have hd : decide (lb < la) = true := decide_eq_true h
    clear Hg Hl He
    go_enter Try.func32, Try.ntmps32
    go_wp2_with fail
    refine Ha.out.mono ?_
    rintro e w1 ⟨rfl, rfl⟩
    go_wp2_with fail
    refine Hb.out.mono ?_
    rintro e w1 ⟨rfl, rfl⟩
    go_wp2_with fail
    refine Ha.out.mono ?_
    rintro e w1 ⟨rfl, rfl⟩
    go_wp2_with fail
    refine Hb.out.mono ?_
    rintro e w1 ⟨rfl, rfl⟩
    go_wp2
    go_ret
    exact ⟨ret_bool (by rw [Hq.out]), rfl⟩

theorem countP_take_succ {α : Type} (p : α → Bool) {l : List α} {k : Nat} (h : k < l.length) : (l.take (k + 1)).countP p = (l.take k).countP p + (if p l[k] = true then 1 else 0) := by
  rw [List.take_succ_eq_append_getElem h, List.countP_append, List.countP_singleton]

set_option maxRecDepth 100000 in
set_option maxHeartbeats 3200000 in
/-- impl.Group.isMost at a function of which it is known what it says of each replica. -/
theorem isMostE_any (x0 x1 : Value) (v : Value) (l : List ReplicaD) (p : ReplicaD → Bool) (t d : Int) (hl : l.length ≤ 1048576) (w : World) (h : Rd Cod.replica w v l)
    (HC : ∀ W, Below w.heap.size w W → ∀ x ∈ l, ∀ u, Rd Cod.entry W u x.Log → Calls Try.prog 29 #[.agg #[.bool x.Up, u, .int .i64 x.Sure], x0, x1] W fun e w' => e = .returned (.bool (p x)) ∧ Below W.heap.size W w') :
    Calls Try.prog 28 #[.agg #[v, .int .i64 t, .int .i64 d], .func (.func 29) #[] #[x0, x1]] w fun e w' => e = .returned (.bool (decide (l.length < 2 * l.countP p))) ∧ Below w.heap.size w w' := by
  have hc := Lib.hid HC
  obtain ⟨q, c, rfl, _, _, r⟩ := h.form
  have R := Lib.hid r
  have HP : Hid ((l.take l.length).countP p = l.countP p) := Lib.hid (by rw [List.take_length])
  clear r h HC
  obtain ⟨n, hn⟩ : ∃ n : Nat, l.length = n := ⟨_, rfl⟩
  have Hn := Lib.hid hn
  have hnb : (n : Int) ≤ 1048576 := by omega
  rw [hn] at HP ⊢
  clear hn hl
  go_enter Try.func28, Try.ntmps28
  go_wp2
  go_loopw [5, 11] (fun a b wr => ∃ k m : Nat, a = .int .i64 (m : Int) ∧ b = .int .i64 (k : Int) ∧ k ≤ n ∧ m ≤ k ∧ Hid (m = (l.take k).countP p) ∧ wr.cell? ⟨w.heap.size, 0, none⟩ = some (.slice q n c) ∧ w.heap.size < wr.heap.size ∧ Below w.heap.size w wr) (fun _ i _ => n - (intOf i).toNat)
  case atStart => exact ⟨0, 0, rfl, rfl, Nat.zero_le _, Nat.le_refl _, Lib.hid (by simp), by simp [go_sem], by simp, by (repeat (first | (with_reducible exact Below.refl _ _) | (with_reducible refine below_setCell ?_ (by first | (simp; done) | (simp; omega) | omega)) | (with_reducible refine below_alloc _ ?_) | (with_reducible refine below_drewN ?_ _) | (with_reducible assumption) | (with_reducible refine below_after (by assumption) ?_)))⟩
  case round =>
    obtain ⟨k, m, rfl, rfl, hk, hmk, HM, c0, hsz, hb⟩ := hrel
    have hmb : (m : Int) ≤ 1048576 := by omega
    by_cases hlt : k < n
    · have hlt2 : (k : Int) < (n : Int) := by omega
      have hkl : k < l.length := by have := Hn.out; omega
      obtain ⟨g, o, rfl, hg, hcc⟩ := R.out (by omega)
      have at0 := (hcc k hkl).below hg hb
      have Hcl := Lib.hid (fun (W : World) (b : Below w.heap.size w W) u r => hc.out W b (l[k]'hkl) (List.getElem_mem hkl) u r)
      have HS := Lib.hid (countP_take_succ p hkl)
      generalize l[k] = x at *
      obtain ⟨d0, ⟨u, d1, rr⟩, d2, _⟩ := at_replica at0
      rw [show o + k * Cod.replica.size = o + k * 3 from rfl] at *
      obtain ⟨pr, cr, rfl, -⟩ := rr.form
      have Hrr := Lib.hid rr
      clear at0 hcc rr hkl
      generalize x.Log.length = nx at *
      generalize p x = px at *
      cases px
      · have Hq : Hid (m = (l.take (k + 1)).countP p) := Lib.hid (by rw [HS.out, ← HM.out]; simp)
        go_wp2_with fail
        refine (Hcl.out _ (by (repeat (first | (with_reducible exact Below.refl _ _) | (with_reducible refine below_setCell ?_ (by first | (simp; done) | (simp; omega) | omega)) | (with_reducible refine below_alloc _ ?_) | (with_reducible refine below_drewN ?_ _) | (with_reducible assumption) | (with_reducible refine below_after (by assumption) ?_)))) _ (Hrr.out.below (by (repeat (first | (with_reducible exact Below.refl _ _) | (with_reducible refine below_setCell ?_ (by first | (simp; done) | (simp; omega) | omega)) | (with_reducible refine below_alloc _ ?_) | (with_reducible refine below_drewN ?_ _) | (with_reducible assumption) | (with_reducible refine below_after (by assumption) ?_)))))).mono ?_
        rintro e w2 ⟨rfl, k2⟩
        have m2 : Below wr.heap.size wr w2 := below_after k2 (by (repeat (first | (with_reducible exact Below.refl _ _) | (with_reducible refine below_setCell ?_ (by first | (simp; done) | (simp; omega) | omega)) | (with_reducible refine below_alloc _ ?_) | (with_reducible refine below_drewN ?_ _) | (with_reducible assumption) | (with_reducible refine below_after (by assumption) ?_))))
        replace c0 := cell_step m2 c0
        go_wp2
        go_roundw
        case rel => exact ⟨k + 1, m, rfl, by go_num, by omega, by omega, Hq, c0, Nat.lt_of_lt_of_le hsz m2.size, below_after m2 hb⟩
        case measure => simp [intOf]; omega
      · have Hq : Hid (m + 1 = (l.take (k + 1)).countP p) := Lib.hid (by rw [HS.out, ← HM.out]; simp)
        go_wp2_with fail
        refine (Hcl.out _ (by (repeat (first | (with_reducible exact Below.refl _ _) | (with_reducible refine below_setCell ?_ (by first | (simp; done) | (simp; omega) | omega)) | (with_reducible refine below_alloc _ ?_) | (with_reducible refine below_drewN ?_ _) | (with_reducible assumption) | (with_reducible refine below_after (by assumption) ?_)))) _ (Hrr.out.below (by (repeat (first | (with_reducible exact Below.refl _ _) | (with_reducible refine below_setCell ?_ (by first | (simp; done) | (simp; omega) | omega)) | (with_reducible refine below_alloc _ ?_) | (with_reducible refine below_drewN ?_ _) | (with_reducible assumption) | (with_reducible refine below_after (by assumption) ?_)))))).mono ?_
        rintro e w2 ⟨rfl, k2⟩
        have m2 : Below wr.heap.size wr w2 := below_after k2 (by (repeat (first | (with_reducible exact Below.refl _ _) | (with_reducible refine below_setCell ?_ (by first | (simp; done) | (simp; omega) | omega)) | (with_reducible refine below_alloc _ ?_) | (with_reducible refine below_drewN ?_ _) | (with_reducible assumption) | (with_reducible refine below_after (by assumption) ?_))))
        replace c0 := cell_step m2 c0
        go_wp2
        go_roundw
        case rel => exact ⟨k + 1, m + 1, by go_num, by go_num, by omega, by omega, Hq, c0, Nat.lt_of_lt_of_le hsz m2.size, below_after m2 hb⟩
        case measure => simp [intOf]; omega
    · have hlt2 : (n : Int) ≤ (k : Int) := by omega
      obtain rfl : k = n := by omega
      have Hq : Hid (m = l.countP p) := Lib.hid (by rw [HM.out, HP.out])
      go_wp2
      go_ret
      exact ⟨ret_bool (by rw [← Hq.out]; simp; try omega), hb⟩

set_option maxRecDepth 100000 in
set_option maxHeartbeats 3200000 in
/-- impl.Group.isMost at a function of which it is known what it says of each replica. -/
theorem isMostA_any (x0 x1 : Value) (v : Value) (l : List ReplicaD) (p : ReplicaD → Bool) (t d : Int) (hl : l.length ≤ 1048576) (w : World) (h : Rd Cod.replica w v l)
    (HC : ∀ W, Below w.heap.size w W → ∀ x ∈ l, ∀ u, Rd Cod.entry W u x.Log → Calls Try.prog 38 #[.agg #[.bool x.Up, u, .int .i64 x.Sure], x0, x1] W fun e w' => e = .returned (.bool (p x)) ∧ Below W.heap.size W w') :
    Calls Try.prog 28 #[.agg #[v, .int .i64 t, .int .i64 d], .func (.func 38) #[] #[x0, x1]] w fun e w' => e = .returned (.bool (decide (l.length < 2 * l.countP p))) ∧ Below w.heap.size w w' := by
  have hc := Lib.hid HC
  obtain ⟨q, c, rfl, _, _, r⟩ := h.form
  have R := Lib.hid r
  have HP : Hid ((l.take l.length).countP p = l.countP p) := Lib.hid (by rw [List.take_length])
  clear r h HC
  obtain ⟨n, hn⟩ : ∃ n : Nat, l.length = n := ⟨_, rfl⟩
  have Hn := Lib.hid hn
  have hnb : (n : Int) ≤ 1048576 := by omega
  rw [hn] at HP ⊢
  clear hn hl
  go_enter Try.func28, Try.ntmps28
  go_wp2
  go_loopw [5, 11] (fun a b wr => ∃ k m : Nat, a = .int .i64 (m : Int) ∧ b = .int .i64 (k : Int) ∧ k ≤ n ∧ m ≤ k ∧ Hid (m = (l.take k).countP p) ∧ wr.cell? ⟨w.heap.size, 0, none⟩ = some (.slice q n c) ∧ w.heap.size < wr.heap.size ∧ Below w.heap.size w wr) (fun _ i _ => n - (intOf i).toNat)
  case atStart => exact ⟨0, 0, rfl, rfl, Nat.zero_le _, Nat.le_refl _, Lib.hid (by simp), by simp [go_sem], by simp, by (repeat (first | (with_reducible exact Below.refl _ _) | (with_reducible refine below_setCell ?_ (by first | (simp; done) | (simp; omega) | omega)) | (with_reducible refine below_alloc _ ?_) | (with_reducible refine below_drewN ?_ _) | (with_reducible assumption) | (with_reducible refine below_after (by assumption) ?_)))⟩
  case round =>
    obtain ⟨k, m, rfl, rfl, hk, hmk, HM, c0, hsz, hb⟩ := hrel
    have hmb : (m : Int) ≤ 1048576 := by omega
    by_cases hlt : k < n
    · have hlt2 : (k : Int) < (n : Int) := by omega
      have hkl : k < l.length := by have := Hn.out; omega
      obtain ⟨g, o, rfl, hg, hcc⟩ := R.out (by omega)
      have at0 := (hcc k hkl).below hg hb
      have Hcl := Lib.hid (fun (W : World) (b : Below w.heap.size w W) u r => hc.out W b (l[k]'hkl) (List.getElem_mem hkl) u r)
      have HS := Lib.hid (countP_take_succ p hkl)
      generalize l[k] = x at *
      obtain ⟨d0, ⟨u, d1, rr⟩, d2, _⟩ := at_replica at0
      rw [show o + k * Cod.replica.size = o + k * 3 from rfl] at *
      obtain ⟨pr, cr, rfl, -⟩ := rr.form
      have Hrr := Lib.hid rr
      clear at0 hcc rr hkl
      generalize x.Log.length = nx at *
      generalize p x = px at *
      cases px
      · have Hq : Hid (m = (l.take (k + 1)).countP p) := Lib.hid (by rw [HS.out, ← HM.out]; simp)
        go_wp2_with fail
        refine (Hcl.out _ (by (repeat (first | (with_reducible exact Below.refl _ _) | (with_reducible refine below_setCell ?_ (by first | (simp; done) | (simp; omega) | omega)) | (with_reducible refine below_alloc _ ?_) | (with_reducible refine below_drewN ?_ _) | (with_reducible assumption) | (with_reducible refine below_after (by assumption) ?_)))) _ (Hrr.out.below (by (repeat (first | (with_reducible exact Below.refl _ _) | (with_reducible refine below_setCell ?_ (by first | (simp; done) | (simp; omega) | omega)) | (with_reducible refine below_alloc _ ?_) | (with_reducible refine below_drewN ?_ _) | (with_reducible assumption) | (with_reducible refine below_after (by assumption) ?_)))))).mono ?_
        rintro e w2 ⟨rfl, k2⟩
        have m2 : Below wr.heap.size wr w2 := below_after k2 (by (repeat (first | (with_reducible exact Below.refl _ _) | (with_reducible refine below_setCell ?_ (by first | (simp; done) | (simp; omega) | omega)) | (with_reducible refine below_alloc _ ?_) | (with_reducible refine below_drewN ?_ _) | (with_reducible assumption) | (with_reducible refine below_after (by assumption) ?_))))
        replace c0 := cell_step m2 c0
        go_wp2
        go_roundw
        case rel => exact ⟨k + 1, m, rfl, by go_num, by omega, by omega, Hq, c0, Nat.lt_of_lt_of_le hsz m2.size, below_after m2 hb⟩
        case measure => simp [intOf]; omega
      · have Hq : Hid (m + 1 = (l.take (k + 1)).countP p) := Lib.hid (by rw [HS.out, ← HM.out]; simp)
        go_wp2_with fail
        refine (Hcl.out _ (by (repeat (first | (with_reducible exact Below.refl _ _) | (with_reducible refine below_setCell ?_ (by first | (simp; done) | (simp; omega) | omega)) | (with_reducible refine below_alloc _ ?_) | (with_reducible refine below_drewN ?_ _) | (with_reducible assumption) | (with_reducible refine below_after (by assumption) ?_)))) _ (Hrr.out.below (by (repeat (first | (with_reducible exact Below.refl _ _) | (with_reducible refine below_setCell ?_ (by first | (simp; done) | (simp; omega) | omega)) | (with_reducible refine below_alloc _ ?_) | (with_reducible refine below_drewN ?_ _) | (with_reducible assumption) | (with_reducible refine below_after (by assumption) ?_)))))).mono ?_
        rintro e w2 ⟨rfl, k2⟩
        have m2 : Below wr.heap.size wr w2 := below_after k2 (by (repeat (first | (with_reducible exact Below.refl _ _) | (with_reducible refine below_setCell ?_ (by first | (simp; done) | (simp; omega) | omega)) | (with_reducible refine below_alloc _ ?_) | (with_reducible refine below_drewN ?_ _) | (with_reducible assumption) | (with_reducible refine below_after (by assumption) ?_))))
        replace c0 := cell_step m2 c0
        go_wp2
        go_roundw
        case rel => exact ⟨k + 1, m + 1, by go_num, by go_num, by omega, by omega, Hq, c0, Nat.lt_of_lt_of_le hsz m2.size, below_after m2 hb⟩
        case measure => simp [intOf]; omega
    · have hlt2 : (n : Int) ≤ (k : Int) := by omega
      obtain rfl : k = n := by omega
      have Hq : Hid (m = l.countP p) := Lib.hid (by rw [HM.out, HP.out])
      go_wp2
      go_ret
      exact ⟨ret_bool (by rw [← Hq.out]; simp; try omega), hb⟩

end Go.Proofs.Ytfaefjdlfjhniaa


/- An election: plain, and impl's closure. -/
namespace Go.Proofs.Ytfaefjdlfjhniaa
open Go.RowKit

/-- Who votes for a log. -/
def voteB (L : List EntryD) (x : ReplicaD) : Bool := x.Up && !newerB x.Log L
/-- Whether replica r wins. -/
def winsB (l : List ReplicaD) (r : Int) : Bool := match l[r.toNat]? with
  | some x => decide (l.length < 2 * l.countP (voteB x.Log))
  | none => false
theorem winsB_nat {l : List ReplicaD} {m : Nat} (h : m < l.length) : winsB l (m : Int) = decide (l.length < 2 * l.countP (voteB l[m].Log)) := by
  unfold winsB
  rw [Int.toNat_natCast, List.getElem?_eq_getElem h]
/-- Whether an election of r is done. -/
noncomputable def electB (l : List ReplicaD) (term lead r : Int) : Bool := ((goodGB l term lead && upIs l r true) && !(term == 200)) && winsB l r

theorem good_term {l : List ReplicaD} {term lead : Int} (h : goodGB l term lead = true) : 0 ≤ term ∧ term ≤ 200 := ((goodG_iff (g := ⟨l, term, lead⟩)).1 h).2.1

set_option maxRecDepth 100000 in
set_option maxHeartbeats 1600000 in
/-- the closure of impl.ElectRep -/
theorem electC_any (x : ReplicaD) (L : List EntryD) (hx : x.Log.length ≤ 1048576) (hL : L.length ≤ 1048576) (w : World) (u : Value) (ru : Rd Cod.entry w u x.Log) (B0 B1 g o n c m : Nat) (vL : Value) (rL : Rd Cod.entry w vL L)
    (h0 : w.cell? ⟨B0, 0, none⟩ = some (.slice (some ⟨g, o, none⟩) n c)) (h1 : w.cell? ⟨B1, 0, none⟩ = some (.int .i64 (m : Int))) (hm : m < n) (hd : w.cell? ⟨g, o + m * 3 + 1, none⟩ = some vL) :
    Calls Try.prog 29 #[.agg #[.bool x.Up, u, .int .i64 x.Sure], .pointer (some ⟨B0, 0, none⟩), .pointer (some ⟨B1, 0, none⟩)] w fun e w' => e = .returned (.bool (voteB L x)) ∧ Below w.heap.size w w' := by
  have Hn := Lib.hid (fun (W : World) (b : Below w.heap.size w W) => isNewer_any u vL x.Log L hx hL W (ru.below b) (rL.below b))
  obtain ⟨pu, cu, rfl, -⟩ := ru.form
  obtain ⟨pl, cl, rfl, -⟩ := rL.form
  have hB0 := World.block_lt_of_cell? _ _ h0
  have hB1 := World.block_lt_of_cell? _ _ h1
  have hBd := World.block_lt_of_cell? _ _ hd
  have hmn : (m : Int) < (n : Int) := by omega
  have hm0 : (0 : Int) ≤ (m : Int) := by omega
  unfold voteB
  clear ru rL
  generalize newerB x.Log L = q at *
  generalize x.Log.length = nx at *
  generalize L.length = nl at *
  obtain ⟨up, lg, su⟩ := x
  dsimp only at *
  clear lg
  cases up
  all_goals
    go_enter Try.func29, Try.ntmps29
    go_upto_region 1 with fail
    generalize hwb : World.alloc _ _ = wb
    first
    | have e0 : wb.cell? ⟨w.heap.size, 0, none⟩ = some (.bool true) := by rw [← hwb]; simp [go_sem]
    | have e0 : wb.cell? ⟨w.heap.size, 0, none⟩ = some (.bool false) := by rw [← hwb]; simp [go_sem]
    have e1 : wb.cell? ⟨w.heap.size, 1, none⟩ = some (.slice pu nx cu) := by rw [← hwb]; simp [go_sem]
    have zb : w.heap.size < wb.heap.size := by rw [← hwb]; simp
    have bb : Below w.heap.size w wb := by rw [← hwb]; exact below_new _ _
    clear hwb
    replace h0 := cell_step bb h0
    replace h1 := cell_step bb h1
    replace hd := cell_step bb hd
    replace hB0 := Nat.lt_of_lt_of_le hB0 bb.size
    replace hB1 := Nat.lt_of_lt_of_le hB1 bb.size
    replace hBd := Nat.lt_of_lt_of_le hBd bb.size
    refine wp_region_ext (by kernel_rfl) (by kernel_rfl) wb.heap.size ?_
    have hx2 := fun (u : World) (b o : Nat) (h : b < wb.heap.size) => ext_cell wb u b o h
    repeat (any_goals (go_big_quiet_step ((go_at_call 30; (with_reducible refine calls_ext_same (Hn.out _ (bb.trans ((ext_below _ _ _).mono bb.size))))))))
    refine wpQuiet_nil ?_
    intro w2 hb2
    clear hx2
    go_wp2
    go_ret
    exact ⟨ret_bool (by simp), below_after hb2 bb⟩

end Go.Proofs.Ytfaefjdlfjhniaa


/- impl.ElectRep. Printed by mkelect.py. -/
namespace Go.Proofs.Ytfaefjdlfjhniaa
open Go.RowKit

set_option maxRecDepth 100000 in
set_option maxHeartbeats 6400000 in
/-- impl.ElectRep -/
theorem elect_any (v : Value) (l : List ReplicaD) (term lead r : Int) (ht : I64 term) (hd : I64 lead) (_hr : I64 r) (hl : costReplicaS l ≤ 1048576) (w : World) (h : Rd Cod.replica w v l) :
    Calls Try.prog 10 #[.agg #[v, .int .i64 term, .int .i64 lead], .int .i64 r] w fun e w' => ∃ v', e = .returned (.tuple #[.agg #[v', .int .i64 (pickG (electB l term lead r) ⟨l, term + 1, r⟩).Term, .int .i64 (pickG (electB l term lead r) ⟨l, term + 1, r⟩).Lead], .bool (electB l term lead r)]) ∧
      Own Cod.replica w' w.heap.size v' (pickG (electB l term lead r) ⟨l, term + 1, r⟩).Reps ∧ Below w.heap.size w w' := by
  have Hg := Lib.hid (fun (W : World) (k : Below w.heap.size w W) => goodGroup_any v l term lead ht hd hl W (h.below k))
  have Ho := Lib.hid (fun (W : World) (k : Below w.heap.size w W) => copyGroup_any v l term lead hl W (h.below k))
  have Hmo := Lib.hid (fun (p : ReplicaD → Bool) (W : World) (k : Below w.heap.size w W) x0 x1 HC => isMostE_any x0 x1 v l p term lead (by unfold costReplicaS at hl; omega) W (h.below k) HC)
  have Hct := Lib.hid (fun (x : ReplicaD) (hx : x ∈ l) => (show x.Log.length ≤ 1048576 from by
    obtain ⟨k, hk, rfl⟩ := List.getElem_of_mem hx
    have := rep_le hl hk
    unfold costEntryS at this
    omega))
  obtain ⟨p, c, rfl, _, _, rr⟩ := h.form
  have R := Lib.hid rr
  obtain ⟨n, hn⟩ : ∃ n : Nat, l.length = n := ⟨_, rfl⟩
  have Hn := Lib.hid hn
  have hnb : (n : Int) ≤ 1048576 := by unfold costReplicaS at hl; omega
  have Hi := Lib.hid (fun W => isRep_any p n c hnb term lead r W)
  have Hu : Hid (inB r 0 ((n : Int) - 1) = false → upIs l r true = false) := Lib.hid fun h => upIs_out (by rw [hn]; exact h) true
  have Hgt := Lib.hid (good_term (l := l) (term := term) (lead := lead))
  have HE : Hid (electB l term lead r = (((goodGB l term lead && upIs l r true) && !(term == 200)) && winsB l r)) := Lib.hid rfl
  have Hr := Lib.hid h
  rw [hn] at Hg Ho Hmo Hr ⊢
  clear hn hl h rr
  generalize electB l term lead r = Q at *
  generalize goodGB l term lead = q at *
  cases q
  · obtain rfl : Q = false := by rw [HE.out, Bool.false_and, Bool.false_and, Bool.false_and]
    clear HE
    dsimp only [pickG]
    go_enter Try.func10, Try.ntmps10
    go_wp2_with fail
    refine (Hg.out _ (by (repeat (first | (with_reducible exact Below.refl _ _) | (with_reducible refine below_setCell ?_ (by first | (simp; done) | (simp; omega) | omega)) | (with_reducible refine below_alloc _ ?_) | (with_reducible refine below_drewN ?_ _) | (with_reducible assumption) | (with_reducible refine below_after (by assumption) ?_))))).mono ?_
    rintro e w1 ⟨rfl, k1⟩
    have b1 : Below w.heap.size w w1 := below_after k1 (by (repeat (first | (with_reducible exact Below.refl _ _) | (with_reducible refine below_setCell ?_ (by first | (simp; done) | (simp; omega) | omega)) | (with_reducible refine below_alloc _ ?_) | (with_reducible refine below_drewN ?_ _) | (with_reducible assumption) | (with_reducible refine below_after (by assumption) ?_))))
    have hx1 := bcell k1
    have c0 : w1.cell? ⟨w.heap.size, 0, none⟩ = some (.slice p n c) := by rw [hx1.1 _ _ (by first | (simp; done) | (simp; omega))]; simp [go_sem]
    have c1 : w1.cell? ⟨w.heap.size, 1, none⟩ = some (.int .i64 term) := by rw [hx1.1 _ _ (by first | (simp; done) | (simp; omega))]; simp [go_sem]
    have c2 : w1.cell? ⟨w.heap.size, 2, none⟩ = some (.int .i64 lead) := by rw [hx1.1 _ _ (by first | (simp; done) | (simp; omega))]; simp [go_sem]
    have s0 : w1.cell? ⟨w.heap.size + 1, 0, none⟩ = some (.int .i64 r) := by rw [hx1.1 _ _ (by first | (simp; done) | (simp; omega))]; simp [go_sem]
    have r0 : w1.cell? ⟨w.heap.size + 1 + 1, 0, none⟩ = some (.slice none 0 0) := by rw [hx1.1 _ _ (by first | (simp; done) | (simp; omega))]; simp [go_sem]
    have r1 : w1.cell? ⟨w.heap.size + 1 + 1, 1, none⟩ = some (.int .i64 0) := by rw [hx1.1 _ _ (by first | (simp; done) | (simp; omega))]; simp [go_sem]
    have r2 : w1.cell? ⟨w.heap.size + 1 + 1, 2, none⟩ = some (.int .i64 0) := by rw [hx1.1 _ _ (by first | (simp; done) | (simp; omega))]; simp [go_sem]
    have g0 : w1.frozen? ⟨w.heap.size + 1 + 1, 0, none⟩ = false := by rw [hx1.2 _ _ (by first | (simp; done) | (simp; omega))]; simp [go_sem]
    have g1 : w1.frozen? ⟨w.heap.size + 1 + 1, 1, none⟩ = false := by rw [hx1.2 _ _ (by first | (simp; done) | (simp; omega))]; simp [go_sem]
    have g2 : w1.frozen? ⟨w.heap.size + 1 + 1, 2, none⟩ = false := by rw [hx1.2 _ _ (by first | (simp; done) | (simp; omega))]; simp [go_sem]
    have z1 : w.heap.size + 1 + 1 < w1.heap.size := by have := k1.size; simp at this; omega
    clear k1 hx1
    go_wp2
    refine bodyPost_ret (v := .tuple #[.agg #[.slice none 0 0, .int .i64 0, .int .i64 0], .bool false]) (by simp [results, Try.results10, go_sem, r0, r1, r2]) rfl ⟨_, rfl, own_nil _ _ _, by (repeat (first | (with_reducible exact Below.refl _ _) | (with_reducible refine below_setCell ?_ (by first | (simp; done) | (simp; omega) | omega)) | (with_reducible refine below_alloc _ ?_) | (with_reducible refine below_drewN ?_ _) | (with_reducible assumption) | (with_reducible refine below_after (by assumption) ?_)))⟩
  · generalize hq : inB r 0 ((n : Int) - 1) = q2 at *
    cases q2
    · obtain rfl : Q = false := by rw [HE.out, Hu.out rfl, Bool.true_and, Bool.false_and, Bool.false_and]
      clear HE hq
      dsimp only [pickG]
      go_enter Try.func10, Try.ntmps10
      go_wp2_with fail
      refine (Hg.out _ (by (repeat (first | (with_reducible exact Below.refl _ _) | (with_reducible refine below_setCell ?_ (by first | (simp; done) | (simp; omega) | omega)) | (with_reducible refine below_alloc _ ?_) | (with_reducible refine below_drewN ?_ _) | (with_reducible assumption) | (with_reducible refine below_after (by assumption) ?_))))).mono ?_
      rintro e w1 ⟨rfl, k1⟩
      have b1 : Below w.heap.size w w1 := below_after k1 (by (repeat (first | (with_reducible exact Below.refl _ _) | (with_reducible refine below_setCell ?_ (by first | (simp; done) | (simp; omega) | omega)) | (with_reducible refine below_alloc _ ?_) | (with_reducible refine below_drewN ?_ _) | (with_reducible assumption) | (with_reducible refine below_after (by assumption) ?_))))
      have hx1 := bcell k1
      have c0 : w1.cell? ⟨w.heap.size, 0, none⟩ = some (.slice p n c) := by rw [hx1.1 _ _ (by first | (simp; done) | (simp; omega))]; simp [go_sem]
      have c1 : w1.cell? ⟨w.heap.size, 1, none⟩ = some (.int .i64 term) := by rw [hx1.1 _ _ (by first | (simp; done) | (simp; omega))]; simp [go_sem]
      have c2 : w1.cell? ⟨w.heap.size, 2, none⟩ = some (.int .i64 lead) := by rw [hx1.1 _ _ (by first | (simp; done) | (simp; omega))]; simp [go_sem]
      have s0 : w1.cell? ⟨w.heap.size + 1, 0, none⟩ = some (.int .i64 r) := by rw [hx1.1 _ _ (by first | (simp; done) | (simp; omega))]; simp [go_sem]
      have r0 : w1.cell? ⟨w.heap.size + 1 + 1, 0, none⟩ = some (.slice none 0 0) := by rw [hx1.1 _ _ (by first | (simp; done) | (simp; omega))]; simp [go_sem]
      have r1 : w1.cell? ⟨w.heap.size + 1 + 1, 1, none⟩ = some (.int .i64 0) := by rw [hx1.1 _ _ (by first | (simp; done) | (simp; omega))]; simp [go_sem]
      have r2 : w1.cell? ⟨w.heap.size + 1 + 1, 2, none⟩ = some (.int .i64 0) := by rw [hx1.1 _ _ (by first | (simp; done) | (simp; omega))]; simp [go_sem]
      have g0 : w1.frozen? ⟨w.heap.size + 1 + 1, 0, none⟩ = false := by rw [hx1.2 _ _ (by first | (simp; done) | (simp; omega))]; simp [go_sem]
      have g1 : w1.frozen? ⟨w.heap.size + 1 + 1, 1, none⟩ = false := by rw [hx1.2 _ _ (by first | (simp; done) | (simp; omega))]; simp [go_sem]
      have g2 : w1.frozen? ⟨w.heap.size + 1 + 1, 2, none⟩ = false := by rw [hx1.2 _ _ (by first | (simp; done) | (simp; omega))]; simp [go_sem]
      have z1 : w.heap.size + 1 + 1 < w1.heap.size := by have := k1.size; simp at this; omega
      clear k1 hx1
      go_wp2_with fail
      refine (Hi.out _).mono ?_
      rintro e wi ⟨rfl, ki⟩
      have bi : Below w.heap.size w wi := below_after ki b1
      replace c0 := cell_step ki c0
      replace c1 := cell_step ki c1
      replace c2 := cell_step ki c2
      replace s0 := cell_step ki s0
      replace r0 := cell_step ki r0
      replace r1 := cell_step ki r1
      replace r2 := cell_step ki r2
      replace g0 : wi.frozen? ⟨w.heap.size + 1 + 1, 0, none⟩ = false := (ki.frozen (p := ⟨w.heap.size + 1 + 1, 0, none⟩) z1).trans g0
      replace g1 : wi.frozen? ⟨w.heap.size + 1 + 1, 1, none⟩ = false := (ki.frozen (p := ⟨w.heap.size + 1 + 1, 1, none⟩) z1).trans g1
      replace g2 : wi.frozen? ⟨w.heap.size + 1 + 1, 2, none⟩ = false := (ki.frozen (p := ⟨w.heap.size + 1 + 1, 2, none⟩) z1).trans g2
      replace z1 : w.heap.size + 1 + 1 < wi.heap.size := Nat.lt_of_lt_of_le z1 ki.size
      clear ki
      go_wp2
      refine bodyPost_ret (v := .tuple #[.agg #[.slice none 0 0, .int .i64 0, .int .i64 0], .bool false]) (by simp [results, Try.results10, go_sem, r0, r1, r2]) rfl ⟨_, rfl, own_nil _ _ _, by (repeat (first | (with_reducible exact Below.refl _ _) | (with_reducible refine below_setCell ?_ (by first | (simp; done) | (simp; omega) | omega)) | (with_reducible refine below_alloc _ ?_) | (with_reducible refine below_drewN ?_ _) | (with_reducible assumption) | (with_reducible refine below_after (by assumption) ?_)))⟩
    · have hr := inB_iff.1 hq
      obtain ⟨m, rfl⟩ : ∃ m : Nat, r = (m : Int) := ⟨r.toNat, by omega⟩
      have hml : m < l.length := by have := Hn.out; omega
      have hmn : (m : Int) < (n : Int) := by omega
      have hm0 : (0 : Int) ≤ (m : Int) := by omega
      have Hup : Hid (upIs l (m : Int) true = (l[m].Up == true)) := Lib.hid (upIs_nat hml true)
      have Hwin := Lib.hid (winsB_nat hml)
      obtain ⟨g, o, rfl, hg, hc⟩ := R.out (by omega)
      obtain ⟨d0, ⟨vL, dL, rL⟩, _⟩ := at_replica (hc m hml)
      rw [show o + m * Cod.replica.size = o + m * 3 from rfl] at d0 dL
      have hLl := Hct.out l[m] (List.getElem_mem hml)
      have HrL := Lib.hid rL
      have htm := Hgt.out rfl
      rw [Hup.out] at HE
      generalize hup : l[m].Up = up at d0 HE
      clear Hup hup hc hq hr R Hu rL
      generalize l[m].Log = L at *
      have hmn2 : m < n := by omega
      cases up
      · obtain rfl : Q = false := by rw [HE.out, show (false == true) = false from rfl, Bool.and_false, Bool.false_and, Bool.false_and]
        clear HE
        dsimp only [pickG]
        go_enter Try.func10, Try.ntmps10
        go_wp2_with fail
        refine (Hg.out _ (by (repeat (first | (with_reducible exact Below.refl _ _) | (with_reducible refine below_setCell ?_ (by first | (simp; done) | (simp; omega) | omega)) | (with_reducible refine below_alloc _ ?_) | (with_reducible refine below_drewN ?_ _) | (with_reducible assumption) | (with_reducible refine below_after (by assumption) ?_))))).mono ?_
        rintro e w1 ⟨rfl, k1⟩
        have b1 : Below w.heap.size w w1 := below_after k1 (by (repeat (first | (with_reducible exact Below.refl _ _) | (with_reducible refine below_setCell ?_ (by first | (simp; done) | (simp; omega) | omega)) | (with_reducible refine below_alloc _ ?_) | (with_reducible refine below_drewN ?_ _) | (with_reducible assumption) | (with_reducible refine below_after (by assumption) ?_))))
        have hx1 := bcell k1
        have c0 : w1.cell? ⟨w.heap.size, 0, none⟩ = some (.slice (some ⟨g, o, none⟩) n c) := by rw [hx1.1 _ _ (by first | (simp; done) | (simp; omega))]; simp [go_sem]
        have c1 : w1.cell? ⟨w.heap.size, 1, none⟩ = some (.int .i64 term) := by rw [hx1.1 _ _ (by first | (simp; done) | (simp; omega))]; simp [go_sem]
        have c2 : w1.cell? ⟨w.heap.size, 2, none⟩ = some (.int .i64 lead) := by rw [hx1.1 _ _ (by first | (simp; done) | (simp; omega))]; simp [go_sem]
        have s0 : w1.cell? ⟨w.heap.size + 1, 0, none⟩ = some (.int .i64 (m : Int)) := by rw [hx1.1 _ _ (by first | (simp; done) | (simp; omega))]; simp [go_sem]
        have r0 : w1.cell? ⟨w.heap.size + 1 + 1, 0, none⟩ = some (.slice none 0 0) := by rw [hx1.1 _ _ (by first | (simp; done) | (simp; omega))]; simp [go_sem]
        have r1 : w1.cell? ⟨w.heap.size + 1 + 1, 1, none⟩ = some (.int .i64 0) := by rw [hx1.1 _ _ (by first | (simp; done) | (simp; omega))]; simp [go_sem]
        have r2 : w1.cell? ⟨w.heap.size + 1 + 1, 2, none⟩ = some (.int .i64 0) := by rw [hx1.1 _ _ (by first | (simp; done) | (simp; omega))]; simp [go_sem]
        have g0 : w1.frozen? ⟨w.heap.size + 1 + 1, 0, none⟩ = false := by rw [hx1.2 _ _ (by first | (simp; done) | (simp; omega))]; simp [go_sem]
        have g1 : w1.frozen? ⟨w.heap.size + 1 + 1, 1, none⟩ = false := by rw [hx1.2 _ _ (by first | (simp; done) | (simp; omega))]; simp [go_sem]
        have g2 : w1.frozen? ⟨w.heap.size + 1 + 1, 2, none⟩ = false := by rw [hx1.2 _ _ (by first | (simp; done) | (simp; omega))]; simp [go_sem]
        have z1 : w.heap.size + 1 + 1 < w1.heap.size := by have := k1.size; simp at this; omega
        clear k1 hx1
        replace d0 := cell_step b1 d0
        go_wp2_with fail
        refine (Hi.out _).mono ?_
        rintro e wi ⟨rfl, ki⟩
        have bi : Below w.heap.size w wi := below_after ki b1
        replace c0 := cell_step ki c0
        replace c1 := cell_step ki c1
        replace c2 := cell_step ki c2
        replace s0 := cell_step ki s0
        replace r0 := cell_step ki r0
        replace r1 := cell_step ki r1
        replace r2 := cell_step ki r2
        replace g0 : wi.frozen? ⟨w.heap.size + 1 + 1, 0, none⟩ = false := (ki.frozen (p := ⟨w.heap.size + 1 + 1, 0, none⟩) z1).trans g0
        replace g1 : wi.frozen? ⟨w.heap.size + 1 + 1, 1, none⟩ = false := (ki.frozen (p := ⟨w.heap.size + 1 + 1, 1, none⟩) z1).trans g1
        replace g2 : wi.frozen? ⟨w.heap.size + 1 + 1, 2, none⟩ = false := (ki.frozen (p := ⟨w.heap.size + 1 + 1, 2, none⟩) z1).trans g2
        replace z1 : w.heap.size + 1 + 1 < wi.heap.size := Nat.lt_of_lt_of_le z1 ki.size
        replace d0 := cell_step ki d0
        clear ki
        go_wp2
        refine bodyPost_ret (v := .tuple #[.agg #[.slice none 0 0, .int .i64 0, .int .i64 0], .bool false]) (by simp [results, Try.results10, go_sem, r0, r1, r2]) rfl ⟨_, rfl, own_nil _ _ _, by (repeat (first | (with_reducible exact Below.refl _ _) | (with_reducible refine below_setCell ?_ (by first | (simp; done) | (simp; omega) | omega)) | (with_reducible refine below_alloc _ ?_) | (with_reducible refine below_drewN ?_ _) | (with_reducible assumption) | (with_reducible refine below_after (by assumption) ?_)))⟩
      · by_cases h200 : term = 200
        · have h2b : (term == 200) = true := by simpa using h200
          obtain rfl : Q = false := by rw [HE.out, h2b, Bool.not_true, Bool.and_false, Bool.false_and]
          clear HE h200
          dsimp only [pickG]
          go_enter Try.func10, Try.ntmps10
          go_wp2_with fail
          refine (Hg.out _ (by (repeat (first | (with_reducible exact Below.refl _ _) | (with_reducible refine below_setCell ?_ (by first | (simp; done) | (simp; omega) | omega)) | (with_reducible refine below_alloc _ ?_) | (with_reducible refine below_drewN ?_ _) | (with_reducible assumption) | (with_reducible refine below_after (by assumption) ?_))))).mono ?_
          rintro e w1 ⟨rfl, k1⟩
          have b1 : Below w.heap.size w w1 := below_after k1 (by (repeat (first | (with_reducible exact Below.refl _ _) | (with_reducible refine below_setCell ?_ (by first | (simp; done) | (simp; omega) | omega)) | (with_reducible refine below_alloc _ ?_) | (with_reducible refine below_drewN ?_ _) | (with_reducible assumption) | (with_reducible refine below_after (by assumption) ?_))))
          have hx1 := bcell k1
          have c0 : w1.cell? ⟨w.heap.size, 0, none⟩ = some (.slice (some ⟨g, o, none⟩) n c) := by rw [hx1.1 _ _ (by first | (simp; done) | (simp; omega))]; simp [go_sem]
          have c1 : w1.cell? ⟨w.heap.size, 1, none⟩ = some (.int .i64 term) := by rw [hx1.1 _ _ (by first | (simp; done) | (simp; omega))]; simp [go_sem]
          have c2 : w1.cell? ⟨w.heap.size, 2, none⟩ = some (.int .i64 lead) := by rw [hx1.1 _ _ (by first | (simp; done) | (simp; omega))]; simp [go_sem]
          have s0 : w1.cell? ⟨w.heap.size + 1, 0, none⟩ = some (.int .i64 (m : Int)) := by rw [hx1.1 _ _ (by first | (simp; done) | (simp; omega))]; simp [go_sem]
          have r0 : w1.cell? ⟨w.heap.size + 1 + 1, 0, none⟩ = some (.slice none 0 0) := by rw [hx1.1 _ _ (by first | (simp; done) | (simp; omega))]; simp [go_sem]
          have r1 : w1.cell? ⟨w.heap.size + 1 + 1, 1, none⟩ = some (.int .i64 0) := by rw [hx1.1 _ _ (by first | (simp; done) | (simp; omega))]; simp [go_sem]
          have r2 : w1.cell? ⟨w.heap.size + 1 + 1, 2, none⟩ = some (.int .i64 0) := by rw [hx1.1 _ _ (by first | (simp; done) | (simp; omega))]; simp [go_sem]
          have g0 : w1.frozen? ⟨w.heap.size + 1 + 1, 0, none⟩ = false := by rw [hx1.2 _ _ (by first | (simp; done) | (simp; omega))]; simp [go_sem]
          have g1 : w1.frozen? ⟨w.heap.size + 1 + 1, 1, none⟩ = false := by rw [hx1.2 _ _ (by first | (simp; done) | (simp; omega))]; simp [go_sem]
          have g2 : w1.frozen? ⟨w.heap.size + 1 + 1, 2, none⟩ = false := by rw [hx1.2 _ _ (by first | (simp; done) | (simp; omega))]; simp [go_sem]
          have z1 : w.heap.size + 1 + 1 < w1.heap.size := by have := k1.size; simp at this; omega
          clear k1 hx1
          replace d0 := cell_step b1 d0
          go_wp2_with fail
          refine (Hi.out _).mono ?_
          rintro e wi ⟨rfl, ki⟩
          have bi : Below w.heap.size w wi := below_after ki b1
          replace c0 := cell_step ki c0
          replace c1 := cell_step ki c1
          replace c2 := cell_step ki c2
          replace s0 := cell_step ki s0
          replace r0 := cell_step ki r0
          replace r1 := cell_step ki r1
          replace r2 := cell_step ki r2
          replace g0 : wi.frozen? ⟨w.heap.size + 1 + 1, 0, none⟩ = false := (ki.frozen (p := ⟨w.heap.size + 1 + 1, 0, none⟩) z1).trans g0
          replace g1 : wi.frozen? ⟨w.heap.size + 1 + 1, 1, none⟩ = false := (ki.frozen (p := ⟨w.heap.size + 1 + 1, 1, none⟩) z1).trans g1
          replace g2 : wi.frozen? ⟨w.heap.size + 1 + 1, 2, none⟩ = false := (ki.frozen (p := ⟨w.heap.size + 1 + 1, 2, none⟩) z1).trans g2
          replace z1 : w.heap.size + 1 + 1 < wi.heap.size := Nat.lt_of_lt_of_le z1 ki.size
          replace d0 := cell_step ki d0
          clear ki
          go_wp2
          refine bodyPost_ret (v := .tuple #[.agg #[.slice none 0 0, .int .i64 0, .int .i64 0], .bool false]) (by simp [results, Try.results10, go_sem, r0, r1, r2]) rfl ⟨_, rfl, own_nil _ _ _, by (repeat (first | (with_reducible exact Below.refl _ _) | (with_reducible refine below_setCell ?_ (by first | (simp; done) | (simp; omega) | omega)) | (with_reducible refine below_alloc _ ?_) | (with_reducible refine below_drewN ?_ _) | (with_reducible assumption) | (with_reducible refine below_after (by assumption) ?_)))⟩
        · have h2b : (term == 200) = false := by simpa using h200
          have htl : term < 200 := by omega
          have HQ : Hid (Q = decide (n < 2 * l.countP (voteB L))) := Lib.hid (by rw [HE.out, h2b, Hwin.out, Hn.out, show (true == true) = true from rfl, Bool.true_and, Bool.not_false, Bool.true_and, Bool.true_and])
          clear HE Hwin
          generalize hdec : decide (n < 2 * l.countP (voteB L)) = dq at HQ
          have HMo := Lib.hid (fun (W : World) (k : Below w.heap.size w W) x0 x1 HC => hdec ▸ Hmo.out (voteB L) W k x0 x1 HC)
          clear hdec Hmo
          obtain rfl : Q = dq := HQ.out
          clear HQ
          go_enter Try.func10, Try.ntmps10
          go_wp2_with fail
          refine (Hg.out _ (by (repeat (first | (with_reducible exact Below.refl _ _) | (with_reducible refine below_setCell ?_ (by first | (simp; done) | (simp; omega) | omega)) | (with_reducible refine below_alloc _ ?_) | (with_reducible refine below_drewN ?_ _) | (with_reducible assumption) | (with_reducible refine below_after (by assumption) ?_))))).mono ?_
          rintro e w1 ⟨rfl, k1⟩
          have b1 : Below w.heap.size w w1 := below_after k1 (by (repeat (first | (with_reducible exact Below.refl _ _) | (with_reducible refine below_setCell ?_ (by first | (simp; done) | (simp; omega) | omega)) | (with_reducible refine below_alloc _ ?_) | (with_reducible refine below_drewN ?_ _) | (with_reducible assumption) | (with_reducible refine below_after (by assumption) ?_))))
          have hx1 := bcell k1
          have c0 : w1.cell? ⟨w.heap.size, 0, none⟩ = some (.slice (some ⟨g, o, none⟩) n c) := by rw [hx1.1 _ _ (by first | (simp; done) | (simp; omega))]; simp [go_sem]
          have c1 : w1.cell? ⟨w.heap.size, 1, none⟩ = some (.int .i64 term) := by rw [hx1.1 _ _ (by first | (simp; done) | (simp; omega))]; simp [go_sem]
          have c2 : w1.cell? ⟨w.heap.size, 2, none⟩ = some (.int .i64 lead) := by rw [hx1.1 _ _ (by first | (simp; done) | (simp; omega))]; simp [go_sem]
          have s0 : w1.cell? ⟨w.heap.size + 1, 0, none⟩ = some (.int .i64 (m : Int)) := by rw [hx1.1 _ _ (by first | (simp; done) | (simp; omega))]; simp [go_sem]
          have r0 : w1.cell? ⟨w.heap.size + 1 + 1, 0, none⟩ = some (.slice none 0 0) := by rw [hx1.1 _ _ (by first | (simp; done) | (simp; omega))]; simp [go_sem]
          have r1 : w1.cell? ⟨w.heap.size + 1 + 1, 1, none⟩ = some (.int .i64 0) := by rw [hx1.1 _ _ (by first | (simp; done) | (simp; omega))]; simp [go_sem]
          have r2 : w1.cell? ⟨w.heap.size + 1 + 1, 2, none⟩ = some (.int .i64 0) := by rw [hx1.1 _ _ (by first | (simp; done) | (simp; omega))]; simp [go_sem]
          have g0 : w1.frozen? ⟨w.heap.size + 1 + 1, 0, none⟩ = false := by rw [hx1.2 _ _ (by first | (simp; done) | (simp; omega))]; simp [go_sem]
          have g1 : w1.frozen? ⟨w.heap.size + 1 + 1, 1, none⟩ = false := by rw [hx1.2 _ _ (by first | (simp; done) | (simp; omega))]; simp [go_sem]
          have g2 : w1.frozen? ⟨w.heap.size + 1 + 1, 2, none⟩ = false := by rw [hx1.2 _ _ (by first | (simp; done) | (simp; omega))]; simp [go_sem]
          have z1 : w.heap.size + 1 + 1 < w1.heap.size := by have := k1.size; simp at this; omega
          clear k1 hx1
          replace d0 := cell_step b1 d0
          replace dL := cell_step b1 dL
          go_wp2_with fail
          refine (Hi.out _).mono ?_
          rintro e wi ⟨rfl, ki⟩
          have bi : Below w.heap.size w wi := below_after ki b1
          replace c0 := cell_step ki c0
          replace c1 := cell_step ki c1
          replace c2 := cell_step ki c2
          replace s0 := cell_step ki s0
          replace r0 := cell_step ki r0
          replace r1 := cell_step ki r1
          replace r2 := cell_step ki r2
          replace g0 : wi.frozen? ⟨w.heap.size + 1 + 1, 0, none⟩ = false := (ki.frozen (p := ⟨w.heap.size + 1 + 1, 0, none⟩) z1).trans g0
          replace g1 : wi.frozen? ⟨w.heap.size + 1 + 1, 1, none⟩ = false := (ki.frozen (p := ⟨w.heap.size + 1 + 1, 1, none⟩) z1).trans g1
          replace g2 : wi.frozen? ⟨w.heap.size + 1 + 1, 2, none⟩ = false := (ki.frozen (p := ⟨w.heap.size + 1 + 1, 2, none⟩) z1).trans g2
          replace z1 : w.heap.size + 1 + 1 < wi.heap.size := Nat.lt_of_lt_of_le z1 ki.size
          replace d0 := cell_step ki d0
          replace dL := cell_step ki dL
          clear ki
          have HC : Hid (∀ W, Below wi.heap.size wi W → ∀ x ∈ l, ∀ u, Rd Cod.entry W u x.Log → Calls Try.prog 29 #[.agg #[.bool x.Up, u, .int .i64 x.Sure], .pointer (some ⟨w.heap.size, 0, none⟩), .pointer (some ⟨w.heap.size + 1, 0, none⟩)] W fun e w' => e = .returned (.bool (voteB L x)) ∧ Below W.heap.size W w') := Lib.hid (fun W b x hx u ru =>
            electC_any x L (Hct.out x hx) hLl W u ru w.heap.size (w.heap.size + 1) g o n c m vL (HrL.out.below (bi.trans (b.mono bi.size))) (cell_step b c0) (cell_step b s0) hmn2 (cell_step b dL))
          go_wp2_with fail
          refine (HMo.out _ bi _ _ (fun W b => HC.out W b)).mono ?_
          rintro e w2 ⟨rfl, k2⟩
          have b2 : Below w.heap.size w w2 := below_after k2 bi
          replace c0 := cell_step k2 c0
          replace c1 := cell_step k2 c1
          replace c2 := cell_step k2 c2
          replace s0 := cell_step k2 s0
          replace r0 := cell_step k2 r0
          replace r1 := cell_step k2 r1
          replace r2 := cell_step k2 r2
          replace g0 : w2.frozen? ⟨w.heap.size + 1 + 1, 0, none⟩ = false := (k2.frozen (p := ⟨w.heap.size + 1 + 1, 0, none⟩) z1).trans g0
          replace g1 : w2.frozen? ⟨w.heap.size + 1 + 1, 1, none⟩ = false := (k2.frozen (p := ⟨w.heap.size + 1 + 1, 1, none⟩) z1).trans g1
          replace g2 : w2.frozen? ⟨w.heap.size + 1 + 1, 2, none⟩ = false := (k2.frozen (p := ⟨w.heap.size + 1 + 1, 2, none⟩) z1).trans g2
          replace z1 : w.heap.size + 1 + 1 < w2.heap.size := Nat.lt_of_lt_of_le z1 k2.size
          clear k2 HC
          cases Q
          · dsimp only [pickG]
            go_wp2
            refine bodyPost_ret (v := .tuple #[.agg #[.slice none 0 0, .int .i64 0, .int .i64 0], .bool false]) (by simp [results, Try.results10, go_sem, r0, r1, r2]) rfl ⟨.slice none 0 0, rfl, own_nil _ _ _, by (repeat (first | (with_reducible exact Below.refl _ _) | (with_reducible refine below_setCell ?_ (by first | (simp; done) | (simp; omega) | omega)) | (with_reducible refine below_alloc _ ?_) | (with_reducible refine below_drewN ?_ _) | (with_reducible assumption) | (with_reducible refine below_after (by assumption) ?_)))⟩
          · go_wp2_with fail
            refine (Ho.out _ b2).mono ?_
            rintro e w3 ⟨v', rfl, o3, k3⟩
            obtain ⟨p', c', rfl⟩ := o3.form
            have b3 : Below w.heap.size w w3 := below_after k3 b2
            have zb : w.heap.size + 1 + 1 < w2.heap.size := z1
            replace r0 := cell_step k3 r0
            replace r1 := cell_step k3 r1
            replace r2 := cell_step k3 r2
            replace s0 := cell_step k3 s0
            replace g0 : w3.frozen? ⟨w.heap.size + 1 + 1, 0, none⟩ = false := (k3.frozen (p := ⟨w.heap.size + 1 + 1, 0, none⟩) z1).trans g0
            replace g1 : w3.frozen? ⟨w.heap.size + 1 + 1, 1, none⟩ = false := (k3.frozen (p := ⟨w.heap.size + 1 + 1, 1, none⟩) z1).trans g1
            replace g2 : w3.frozen? ⟨w.heap.size + 1 + 1, 2, none⟩ = false := (k3.frozen (p := ⟨w.heap.size + 1 + 1, 2, none⟩) z1).trans g2
            replace z1 : w.heap.size + 1 + 1 < w3.heap.size := Nat.lt_of_lt_of_le z1 k3.size
            have hn3 : l.length = n := Hn.out
            rw [hn3] at o3 ⊢
            have hzr : w.heap.size + 1 < w3.heap.size := by omega
            have hzr2 : w.heap.size + 1 ≠ w3.heap.size := by omega
            have hzr3 : w.heap.size ≠ w3.heap.size := by omega
            go_upto_region 8 with fail
            generalize hw4 : World.alloc _ _ = w4
            have b4 : Below w.heap.size w w4 := by rw [← hw4]; (repeat (first | (with_reducible exact Below.refl _ _) | (with_reducible refine below_setCell ?_ (by first | (simp; done) | (simp; omega) | omega)) | (with_reducible refine below_alloc _ ?_) | (with_reducible refine below_drewN ?_ _) | (with_reducible assumption) | (with_reducible refine below_after (by assumption) ?_)))
            have o4 : Own Cod.replicaR w4 w2.heap.size (.slice p' n c') l := o3.below (by rw [← hw4]; (repeat (first | (with_reducible exact Below.refl _ _) | (with_reducible refine below_setCell ?_ (by first | (simp; done) | (simp; omega) | omega)) | (with_reducible refine below_alloc _ ?_) | (with_reducible refine below_drewN ?_ _) | (with_reducible assumption) | (with_reducible refine below_after (by assumption) ?_))))
            have q0 : w4.cell? ⟨w3.heap.size, 0, none⟩ = some (.slice p' n c') := by rw [← hw4]; simp [go_sem]
            have q1 : w4.cell? ⟨w3.heap.size, 1, none⟩ = some (.int .i64 (term + 1)) := by rw [← hw4]; simp [go_sem]
            have q2 : w4.cell? ⟨w3.heap.size, 2, none⟩ = some (.int .i64 (m : Int)) := by rw [← hw4]; simp [go_sem]
            have ot : ∀ i, w4.cell? ⟨w.heap.size + 1 + 1, i, none⟩ = w3.cell? ⟨w.heap.size + 1 + 1, i, none⟩ := fun i => by rw [← hw4]; exact cell_alloc_old z1
            have of : ∀ i, w4.frozen? ⟨w.heap.size + 1 + 1, i, none⟩ = w3.frozen? ⟨w.heap.size + 1 + 1, i, none⟩ := fun i => by rw [← hw4]; exact frozen_alloc_old z1
            rw [← ot] at r0 r1 r2
            rw [← of] at g0 g1 g2
            have hz4 : w3.heap.size ≠ w.heap.size + 1 + 1 := by omega
            clear hw4 ot of o3 k3
            go_wp2
            refine bodyPost_ret (v := .tuple #[.agg #[.slice p' n c', .int .i64 (term + 1), .int .i64 (m : Int)], .bool true]) (by simp [results, Try.results10, go_sem, r0, r1, r2, g0, g1, g2]) rfl ⟨.slice p' n c', rfl, ?_, by (repeat (first | (with_reducible exact Below.refl _ _) | (with_reducible refine below_setCell ?_ (by first | (simp; done) | (simp; omega) | omega)) | (with_reducible refine below_alloc _ ?_) | (with_reducible refine below_drewN ?_ _) | (with_reducible assumption) | (with_reducible refine below_after (by assumption) ?_)))⟩
            exact (own_weakR (o4.keep (Nat.le_refl _) (by (repeat (first | (with_reducible exact Keep.refl _ _) | (with_reducible refine keep_set ?_ (by first | (simp; done) | (simp; omega) | omega)) | (with_reducible refine keep_alloc _ ?_) | (with_reducible refine keep_drewN ?_ _) | (with_reducible assumption) | (with_reducible refine keep_below (by assumption) ?_)))))).mono (by omega)

end Go.Proofs.Ytfaefjdlfjhniaa


/- spec.ElectRep. Printed by mkelect.py. -/
namespace Go.Proofs.Ytfaefjdlfjhniaa
open Go.RowKit

set_option maxRecDepth 100000 in
set_option maxHeartbeats 6400000 in
/-- spec.ElectRep -/
theorem electS_any (v : Value) (l : List ReplicaD) (term lead r : Int) (ht : I64 term) (hd : I64 lead) (_hr : I64 r) (hl : costReplicaS l ≤ 1048576) (w : World) (h : Rd Cod.replica w v l) :
    Calls Try.prog 11 #[.agg #[v, .int .i64 term, .int .i64 lead], .int .i64 r] w fun e w' => ∃ v', e = .returned (.tuple #[.agg #[v', .int .i64 (pickG (electB l term lead r) ⟨l, term + 1, r⟩).Term, .int .i64 (pickG (electB l term lead r) ⟨l, term + 1, r⟩).Lead], .bool (electB l term lead r)]) ∧
      Own Cod.replica w' w.heap.size v' (pickG (electB l term lead r) ⟨l, term + 1, r⟩).Reps ∧ Below w.heap.size w w' := by
  have Hu := Lib.hid (fun (W : World) (k : Below w.heap.size w W) => l9Up_any v l term lead r true ht hd hl W (h.below k))
  have Ho := Lib.hid (fun (W : World) (k : Below w.heap.size w W) => l9Own_any v l term lead hl W (h.below k))
  have Hct := Lib.hid (fun (x : ReplicaD) (hx : x ∈ l) => (show x.Log.length ≤ 1048576 from by
    obtain ⟨k, hk, rfl⟩ := List.getElem_of_mem hx
    have := rep_le hl hk
    unfold costEntryS at this
    omega))
  have Hm : Hid (upIs l r true = true → ∃ m : Nat, r = (m : Int) ∧ m < l.length) := Lib.hid (fun hu => by
    by_cases h0 : inB r 0 ((l.length : Int) - 1) = true
    · have := inB_iff.1 h0
      exact ⟨r.toNat, by omega, by omega⟩
    · rw [upIs_out (by simpa using h0)] at hu
      cases hu)
  have Hgt := Lib.hid (good_term (l := l) (term := term) (lead := lead))
  have HE : Hid (electB l term lead r = (((goodGB l term lead && upIs l r true) && !(term == 200)) && winsB l r)) := Lib.hid rfl
  have HP : Hid ((l.take l.length).countP (fun _ => true) = (l.take l.length).countP (fun _ => true)) := Lib.hid rfl
  obtain ⟨p, c, rfl, _, _, rr⟩ := h.form
  have RR := Lib.hid rr
  obtain ⟨n, hn⟩ : ∃ n : Nat, l.length = n := ⟨_, rfl⟩
  have Hn := Lib.hid hn
  have hnb : (n : Int) ≤ 1048576 := by unfold costReplicaS at hl; omega
  have HgU : Hid ((goodGB l term lead && upIs l r true) = true → goodGB l term lead = true ∧ upIs l r true = true) := Lib.hid (fun h => Bool.and_eq_true_iff.1 h)
  rw [hn] at Hu Ho ⊢
  clear hn hl h rr HP
  generalize electB l term lead r = Q at *
  generalize (goodGB l term lead && upIs l r true) = q at *
  cases q
  · obtain rfl : Q = false := by rw [HE.out, Bool.false_and, Bool.false_and]
    clear HE HgU
    dsimp only [pickG]
    go_enter Try.func11, Try.ntmps11
    go_wp2_with fail
    refine (Hu.out _ (by (repeat (first | (with_reducible exact Below.refl _ _) | (with_reducible refine below_setCell ?_ (by first | (simp; done) | (simp; omega) | omega)) | (with_reducible refine below_alloc _ ?_) | (with_reducible refine below_drewN ?_ _) | (with_reducible assumption) | (with_reducible refine below_after (by assumption) ?_))))).mono ?_
    rintro e w1 ⟨rfl, k1⟩
    have b1 : Below w.heap.size w w1 := below_after k1 (by (repeat (first | (with_reducible exact Below.refl _ _) | (with_reducible refine below_setCell ?_ (by first | (simp; done) | (simp; omega) | omega)) | (with_reducible refine below_alloc _ ?_) | (with_reducible refine below_drewN ?_ _) | (with_reducible assumption) | (with_reducible refine below_after (by assumption) ?_))))
    have hx1 := bcell k1
    have c0 : w1.cell? ⟨w.heap.size, 0, none⟩ = some (.slice p n c) := by rw [hx1.1 _ _ (by first | (simp; done) | (simp; omega))]; simp [go_sem]
    have c1 : w1.cell? ⟨w.heap.size, 1, none⟩ = some (.int .i64 term) := by rw [hx1.1 _ _ (by first | (simp; done) | (simp; omega))]; simp [go_sem]
    have c2 : w1.cell? ⟨w.heap.size, 2, none⟩ = some (.int .i64 lead) := by rw [hx1.1 _ _ (by first | (simp; done) | (simp; omega))]; simp [go_sem]
    have r0 : w1.cell? ⟨w.heap.size + 1, 0, none⟩ = some (.slice none 0 0) := by rw [hx1.1 _ _ (by first | (simp; done) | (simp; omega))]; simp [go_sem]
    have r1 : w1.cell? ⟨w.heap.size + 1, 1, none⟩ = some (.int .i64 0) := by rw [hx1.1 _ _ (by first | (simp; done) | (simp; omega))]; simp [go_sem]
    have r2 : w1.cell? ⟨w.heap.size + 1, 2, none⟩ = some (.int .i64 0) := by rw [hx1.1 _ _ (by first | (simp; done) | (simp; omega))]; simp [go_sem]
    have g0 : w1.frozen? ⟨w.heap.size + 1, 0, none⟩ = false := by rw [hx1.2 _ _ (by first | (simp; done) | (simp; omega))]; simp [go_sem]
    have g1 : w1.frozen? ⟨w.heap.size + 1, 1, none⟩ = false := by rw [hx1.2 _ _ (by first | (simp; done) | (simp; omega))]; simp [go_sem]
    have g2 : w1.frozen? ⟨w.heap.size + 1, 2, none⟩ = false := by rw [hx1.2 _ _ (by first | (simp; done) | (simp; omega))]; simp [go_sem]
    have z1 : w.heap.size + 1 < w1.heap.size := by have := k1.size; simp at this; omega
    clear k1 hx1
    go_wp2
    refine bodyPost_ret (v := .tuple #[.agg #[.slice none 0 0, .int .i64 0, .int .i64 0], .bool false]) (by simp [results, Try.results11, go_sem, r0, r1, r2]) rfl ⟨_, rfl, own_nil _ _ _, by (repeat (first | (with_reducible exact Below.refl _ _) | (with_reducible refine below_setCell ?_ (by first | (simp; done) | (simp; omega) | omega)) | (with_reducible refine below_alloc _ ?_) | (with_reducible refine below_drewN ?_ _) | (with_reducible assumption) | (with_reducible refine below_after (by assumption) ?_)))⟩
  · obtain ⟨hgood, hup⟩ := HgU.out rfl
    obtain ⟨m, rfl, hml⟩ := Hm.out hup
    have htm := Hgt.out hgood
    clear Hm HgU Hgt hgood hup
    by_cases h200 : term = 200
    · have h2b : (term == 200) = true := by simpa using h200
      obtain rfl : Q = false := by rw [HE.out, h2b, Bool.not_true, Bool.and_false, Bool.false_and]
      clear HE h200
      dsimp only [pickG]
      go_enter Try.func11, Try.ntmps11
      go_wp2_with fail
      refine (Hu.out _ (by (repeat (first | (with_reducible exact Below.refl _ _) | (with_reducible refine below_setCell ?_ (by first | (simp; done) | (simp; omega) | omega)) | (with_reducible refine below_alloc _ ?_) | (with_reducible refine below_drewN ?_ _) | (with_reducible assumption) | (with_reducible refine below_after (by assumption) ?_))))).mono ?_
      rintro e w1 ⟨rfl, k1⟩
      have b1 : Below w.heap.size w w1 := below_after k1 (by (repeat (first | (with_reducible exact Below.refl _ _) | (with_reducible refine below_setCell ?_ (by first | (simp; done) | (simp; omega) | omega)) | (with_reducible refine below_alloc _ ?_) | (with_reducible refine below_drewN ?_ _) | (with_reducible assumption) | (with_reducible refine below_after (by assumption) ?_))))
      have hx1 := bcell k1
      have c0 : w1.cell? ⟨w.heap.size, 0, none⟩ = some (.slice p n c) := by rw [hx1.1 _ _ (by first | (simp; done) | (simp; omega))]; simp [go_sem]
      have c1 : w1.cell? ⟨w.heap.size, 1, none⟩ = some (.int .i64 term) := by rw [hx1.1 _ _ (by first | (simp; done) | (simp; omega))]; simp [go_sem]
      have c2 : w1.cell? ⟨w.heap.size, 2, none⟩ = some (.int .i64 lead) := by rw [hx1.1 _ _ (by first | (simp; done) | (simp; omega))]; simp [go_sem]
      have r0 : w1.cell? ⟨w.heap.size + 1, 0, none⟩ = some (.slice none 0 0) := by rw [hx1.1 _ _ (by first | (simp; done) | (simp; omega))]; simp [go_sem]
      have r1 : w1.cell? ⟨w.heap.size + 1, 1, none⟩ = some (.int .i64 0) := by rw [hx1.1 _ _ (by first | (simp; done) | (simp; omega))]; simp [go_sem]
      have r2 : w1.cell? ⟨w.heap.size + 1, 2, none⟩ = some (.int .i64 0) := by rw [hx1.1 _ _ (by first | (simp; done) | (simp; omega))]; simp [go_sem]
      have g0 : w1.frozen? ⟨w.heap.size + 1, 0, none⟩ = false := by rw [hx1.2 _ _ (by first | (simp; done) | (simp; omega))]; simp [go_sem]
      have g1 : w1.frozen? ⟨w.heap.size + 1, 1, none⟩ = false := by rw [hx1.2 _ _ (by first | (simp; done) | (simp; omega))]; simp [go_sem]
      have g2 : w1.frozen? ⟨w.heap.size + 1, 2, none⟩ = false := by rw [hx1.2 _ _ (by first | (simp; done) | (simp; omega))]; simp [go_sem]
      have z1 : w.heap.size + 1 < w1.heap.size := by have := k1.size; simp at this; omega
      clear k1 hx1
      go_wp2
      refine bodyPost_ret (v := .tuple #[.agg #[.slice none 0 0, .int .i64 0, .int .i64 0], .bool false]) (by simp [results, Try.results11, go_sem, r0, r1, r2]) rfl ⟨_, rfl, own_nil _ _ _, by (repeat (first | (with_reducible exact Below.refl _ _) | (with_reducible refine below_setCell ?_ (by first | (simp; done) | (simp; omega) | omega)) | (with_reducible refine below_alloc _ ?_) | (with_reducible refine below_drewN ?_ _) | (with_reducible assumption) | (with_reducible refine below_after (by assumption) ?_)))⟩
    · have h2b : (term == 200) = false := by simpa using h200
      have htl : term < 200 := by omega
      have hmn : (m : Int) < (n : Int) := by have := Hn.out; omega
      have hm0 : (0 : Int) ≤ (m : Int) := by omega
      have hmn2 : m < n := by omega
      have HQ : Hid (Q = decide (n < 2 * l.countP (voteB l[m].Log))) := Lib.hid (by rw [HE.out, h2b, winsB_nat hml, Hn.out, Bool.not_false, Bool.true_and, Bool.true_and])
      obtain ⟨g, o, rfl, hg, hc⟩ := RR.out (by omega)
      have Hc := Lib.hid hc
      obtain ⟨_, ⟨vL, dL, rL⟩, _⟩ := at_replica (hc m hml)
      rw [show o + m * Cod.replica.size = o + m * 3 from rfl] at dL
      have hLl := Hct.out l[m] (List.getElem_mem hml)
      have HrL := Lib.hid rL
      have hml' := Lib.hid hml
      generalize l[m].Log = L at *
      clear HE RR hc rL h200
      obtain ⟨pL, cL, rfl, -⟩ := HrL.out.form
      go_enter Try.func11, Try.ntmps11
      go_wp2_with fail
      refine (Hu.out _ (by (repeat (first | (with_reducible exact Below.refl _ _) | (with_reducible refine below_setCell ?_ (by first | (simp; done) | (simp; omega) | omega)) | (with_reducible refine below_alloc _ ?_) | (with_reducible refine below_drewN ?_ _) | (with_reducible assumption) | (with_reducible refine below_after (by assumption) ?_))))).mono ?_
      rintro e w1 ⟨rfl, k1⟩
      have b1 : Below w.heap.size w w1 := below_after k1 (by (repeat (first | (with_reducible exact Below.refl _ _) | (with_reducible refine below_setCell ?_ (by first | (simp; done) | (simp; omega) | omega)) | (with_reducible refine below_alloc _ ?_) | (with_reducible refine below_drewN ?_ _) | (with_reducible assumption) | (with_reducible refine below_after (by assumption) ?_))))
      have hx1 := bcell k1
      have c0 : w1.cell? ⟨w.heap.size, 0, none⟩ = some (.slice (some ⟨g, o, none⟩) n c) := by rw [hx1.1 _ _ (by first | (simp; done) | (simp; omega))]; simp [go_sem]
      have c1 : w1.cell? ⟨w.heap.size, 1, none⟩ = some (.int .i64 term) := by rw [hx1.1 _ _ (by first | (simp; done) | (simp; omega))]; simp [go_sem]
      have c2 : w1.cell? ⟨w.heap.size, 2, none⟩ = some (.int .i64 lead) := by rw [hx1.1 _ _ (by first | (simp; done) | (simp; omega))]; simp [go_sem]
      have r0 : w1.cell? ⟨w.heap.size + 1, 0, none⟩ = some (.slice none 0 0) := by rw [hx1.1 _ _ (by first | (simp; done) | (simp; omega))]; simp [go_sem]
      have r1 : w1.cell? ⟨w.heap.size + 1, 1, none⟩ = some (.int .i64 0) := by rw [hx1.1 _ _ (by first | (simp; done) | (simp; omega))]; simp [go_sem]
      have r2 : w1.cell? ⟨w.heap.size + 1, 2, none⟩ = some (.int .i64 0) := by rw [hx1.1 _ _ (by first | (simp; done) | (simp; omega))]; simp [go_sem]
      have g0 : w1.frozen? ⟨w.heap.size + 1, 0, none⟩ = false := by rw [hx1.2 _ _ (by first | (simp; done) | (simp; omega))]; simp [go_sem]
      have g1 : w1.frozen? ⟨w.heap.size + 1, 1, none⟩ = false := by rw [hx1.2 _ _ (by first | (simp; done) | (simp; omega))]; simp [go_sem]
      have g2 : w1.frozen? ⟨w.heap.size + 1, 2, none⟩ = false := by rw [hx1.2 _ _ (by first | (simp; done) | (simp; omega))]; simp [go_sem]
      have z1 : w.heap.size + 1 < w1.heap.size := by have := k1.size; simp at this; omega
      clear k1 hx1
      go_wp2
      go_loopw [6, 7] (fun a b wr => ∃ k q : Nat, a = .int .i64 (q : Int) ∧ b = .int .i64 (k : Int) ∧ k ≤ n ∧ q ≤ k ∧ Hid (q = (l.take k).countP (voteB L)) ∧ (wr.cell? ⟨w.heap.size, 0, none⟩ = some (.slice (some ⟨g, o, none⟩) n c) ∧ wr.cell? ⟨w.heap.size, 1, none⟩ = some (.int .i64 term) ∧ wr.cell? ⟨w.heap.size, 2, none⟩ = some (.int .i64 lead)) ∧ (wr.cell? ⟨w.heap.size + 1, 0, none⟩ = some (.slice none 0 0) ∧ wr.cell? ⟨w.heap.size + 1, 1, none⟩ = some (.int .i64 0) ∧ wr.cell? ⟨w.heap.size + 1, 2, none⟩ = some (.int .i64 0) ∧ wr.frozen? ⟨w.heap.size + 1, 0, none⟩ = false ∧ wr.frozen? ⟨w.heap.size + 1, 1, none⟩ = false ∧ wr.frozen? ⟨w.heap.size + 1, 2, none⟩ = false) ∧ w.heap.size + 1 < wr.heap.size ∧ Below w.heap.size w wr) (fun _ i _ => n - (intOf i).toNat)
      case atStart => exact ⟨0, 0, rfl, rfl, Nat.zero_le _, Nat.le_refl _, Lib.hid (by simp), ⟨c0, c1, c2⟩, ⟨r0, r1, r2, g0, g1, g2⟩, z1, b1⟩
      case round =>
        clear c0 c1 c2 r0 r1 r2 g0 g1 g2 z1 b1
        obtain ⟨k, q, rfl, rfl, hk, hqk, HM, ⟨c0, c1, c2⟩, ⟨r0, r1, r2, g0, g1, g2⟩, z1, hb⟩ := hrel
        obtain ⟨wo, rfl⟩ : ∃ wo : World, wo = wr := ⟨_, rfl⟩
        have hqb : (q : Int) ≤ 1048576 := by omega
        by_cases hlt : k < n
        · have hlt2 : (k : Int) < (n : Int) := by omega
          have hkl : k < l.length := by have := Hn.out; omega
          have at0 := (Hc.out k hkl).below hg hb
          have hxl := Hct.out (l[k]'hkl) (List.getElem_mem hkl)
          have HS := Lib.hid (countP_take_succ (voteB L) hkl)
          generalize l[k] = x at *
          obtain ⟨d0, ⟨u, d1, ru⟩, _⟩ := at_replica at0
          rw [show o + k * Cod.replica.size = o + k * 3 from rfl] at d0 d1
          have dL' := cell_step hb dL
          have Hn2 := Lib.hid (fun (W : World) (b : Below wo.heap.size wo W) => l9Later_any u (.slice pL L.length cL) x.Log L hxl hLl W (ru.below b) ((HrL.out.below hb).below b))
          obtain ⟨pu, cu, rfl, -⟩ := ru.form
          have HV : Hid (voteB L x = (x.Up && !newerB x.Log L)) := Lib.hid rfl
          have hgo : g < wo.heap.size := by have := hb.size; omega
          have z0 : w.heap.size < wo.heap.size := by omega
          clear at0 ru hkl
          generalize newerB x.Log L = nw at *
          generalize voteB L x = px at *
          generalize x.Log.length = nx at *
          generalize hup : x.Up = up at *
          clear hup
          go_upto_region 7 with fail
          have Hfin : Hid (∀ w2, Below wo.heap.size wo w2 → True) := Lib.hid (fun _ _ => trivial)
          cases up <;> cases nw
          all_goals
            refine wp_region_ext (by kernel_rfl) (by kernel_rfl) wo.heap.size ?_
            have hx2 := fun (u : World) (b o : Nat) (h : b < wo.heap.size) => ext_cell wo u b o h
            repeat (any_goals (go_big_quiet_step ((go_at_call 32; (with_reducible refine calls_ext_same (Hn2.out _ (ext_below _ _ _)))))))
            refine wpQuiet_nil ?_
            intro w2 hb2
            clear hx2 Hfin
            replace c0 := cell_step hb2 c0
            replace c1 := cell_step hb2 c1
            replace c2 := cell_step hb2 c2
            replace g0 := frozen_step hb2 r0 g0
            replace g1 := frozen_step hb2 r1 g1
            replace g2 := frozen_step hb2 r2 g2
            replace r0 := cell_step hb2 r0
            replace r1 := cell_step hb2 r1
            replace r2 := cell_step hb2 r2
            replace z1 := Nat.lt_of_lt_of_le z1 hb2.size
          · have Hq : Hid (q = (l.take (k + 1)).countP (voteB L)) := Lib.hid (by rw [HS.out, HV.out, ← HM.out]; simp)
            go_wp2
            go_roundw
            case rel => exact ⟨k + 1, q, rfl, by go_num, by omega, by omega, Hq, ⟨c0, c1, c2⟩, ⟨r0, r1, r2, g0, g1, g2⟩, z1, below_after hb2 hb⟩
            case measure => simp [intOf]; omega
          · have Hq : Hid (q = (l.take (k + 1)).countP (voteB L)) := Lib.hid (by rw [HS.out, HV.out, ← HM.out]; simp)
            go_wp2
            go_roundw
            case rel => exact ⟨k + 1, q, rfl, by go_num, by omega, by omega, Hq, ⟨c0, c1, c2⟩, ⟨r0, r1, r2, g0, g1, g2⟩, z1, below_after hb2 hb⟩
            case measure => simp [intOf]; omega
          · have Hq : Hid (q + 1 = (l.take (k + 1)).countP (voteB L)) := Lib.hid (by rw [HS.out, HV.out, ← HM.out]; simp)
            go_wp2
            go_roundw
            case rel => exact ⟨k + 1, q + 1, by go_num, by go_num, by omega, by omega, Hq, ⟨c0, c1, c2⟩, ⟨r0, r1, r2, g0, g1, g2⟩, z1, below_after hb2 hb⟩
            case measure => simp [intOf]; omega
          · have Hq : Hid (q = (l.take (k + 1)).countP (voteB L)) := Lib.hid (by rw [HS.out, HV.out, ← HM.out]; simp)
            go_wp2
            go_roundw
            case rel => exact ⟨k + 1, q, rfl, by go_num, by omega, by omega, Hq, ⟨c0, c1, c2⟩, ⟨r0, r1, r2, g0, g1, g2⟩, z1, below_after hb2 hb⟩
            case measure => simp [intOf]; omega
        · have hlt2 : (n : Int) ≤ (k : Int) := by omega
          obtain rfl : k = n := by omega
          have HC : Hid (q = l.countP (voteB L)) := Lib.hid (by rw [HM.out, ← Hn.out, List.take_length])
          rw [← HC.out] at HQ
          by_cases hmost : k < 2 * q
          rotate_left
          · obtain rfl : Q = false := by rw [HQ.out]; exact decide_eq_false hmost
            have hle : 2 * (q : Int) ≤ (k : Int) := by omega
            clear HQ HC
            go_wp2
            refine bodyPost_ret (v := .tuple #[.agg #[.slice none 0 0, .int .i64 0, .int .i64 0], .bool false]) (by simp [results, Try.results11, go_sem, r0, r1, r2]) rfl ⟨.slice none 0 0, rfl, own_nil _ _ _, by (repeat (first | (with_reducible exact Below.refl _ _) | (with_reducible refine below_setCell ?_ (by first | (simp; done) | (simp; omega) | omega)) | (with_reducible refine below_alloc _ ?_) | (with_reducible refine below_drewN ?_ _) | (with_reducible assumption) | (with_reducible refine below_after (by assumption) ?_)))⟩
          · obtain rfl : Q = true := by rw [HQ.out]; exact decide_eq_true hmost
            have hle : (k : Int) < 2 * (q : Int) := by omega
            have hle2 : decide (2 * (q : Int) ≤ (k : Int)) = false := decide_eq_false (by omega)
            clear HQ HC
            go_wp2_with fail
            refine (Ho.out _ hb).mono ?_
            rintro e w3 ⟨v', rfl, o3, k3⟩
            obtain ⟨p', c', rfl⟩ := o3.form
            have b3 : Below w.heap.size w w3 := below_after k3 hb
            have hn3k : l.length = k := Hn.out
            have zb : w.heap.size + 1 < wo.heap.size := z1
            replace r0 := cell_step k3 r0
            replace r1 := cell_step k3 r1
            replace r2 := cell_step k3 r2
            replace g0 : w3.frozen? ⟨w.heap.size + 1, 0, none⟩ = false := (k3.frozen (p := ⟨w.heap.size + 1, 0, none⟩) z1).trans g0
            replace g1 : w3.frozen? ⟨w.heap.size + 1, 1, none⟩ = false := (k3.frozen (p := ⟨w.heap.size + 1, 1, none⟩) z1).trans g1
            replace g2 : w3.frozen? ⟨w.heap.size + 1, 2, none⟩ = false := (k3.frozen (p := ⟨w.heap.size + 1, 2, none⟩) z1).trans g2
            replace z1 : w.heap.size + 1 < w3.heap.size := Nat.lt_of_lt_of_le z1 k3.size
            rw [hn3k] at o3 ⊢
            have hzr2 : w.heap.size + 1 ≠ w3.heap.size := by omega
            have hzr3 : w.heap.size ≠ w3.heap.size := by omega
            go_upto_region 14 with fail
            generalize hw4 : World.alloc _ _ = w4
            have b4 : Below w.heap.size w w4 := by rw [← hw4]; (repeat (first | (with_reducible exact Below.refl _ _) | (with_reducible refine below_setCell ?_ (by first | (simp; done) | (simp; omega) | omega)) | (with_reducible refine below_alloc _ ?_) | (with_reducible refine below_drewN ?_ _) | (with_reducible assumption) | (with_reducible refine below_after (by assumption) ?_)))
            have o4 : Own Cod.replicaR w4 wo.heap.size (.slice p' k c') l := o3.below (by rw [← hw4]; (repeat (first | (with_reducible exact Below.refl _ _) | (with_reducible refine below_setCell ?_ (by first | (simp; done) | (simp; omega) | omega)) | (with_reducible refine below_alloc _ ?_) | (with_reducible refine below_drewN ?_ _) | (with_reducible assumption) | (with_reducible refine below_after (by assumption) ?_))))
            have q0 : w4.cell? ⟨w3.heap.size, 0, none⟩ = some (.slice p' k c') := by rw [← hw4]; simp [go_sem]
            have q1 : w4.cell? ⟨w3.heap.size, 1, none⟩ = some (.int .i64 (term + 1)) := by rw [← hw4]; simp [go_sem]
            have q2 : w4.cell? ⟨w3.heap.size, 2, none⟩ = some (.int .i64 (m : Int)) := by rw [← hw4]; simp [go_sem]
            have ot : ∀ i, w4.cell? ⟨w.heap.size + 1, i, none⟩ = w3.cell? ⟨w.heap.size + 1, i, none⟩ := fun i => by rw [← hw4]; exact cell_alloc_old z1
            have of : ∀ i, w4.frozen? ⟨w.heap.size + 1, i, none⟩ = w3.frozen? ⟨w.heap.size + 1, i, none⟩ := fun i => by rw [← hw4]; exact frozen_alloc_old z1
            rw [← ot] at r0 r1 r2
            rw [← of] at g0 g1 g2
            have hz4 : w3.heap.size ≠ w.heap.size + 1 := by omega
            clear hw4 ot of o3 k3
            go_wp2
            refine bodyPost_ret (v := .tuple #[.agg #[.slice p' k c', .int .i64 (term + 1), .int .i64 (m : Int)], .bool true]) (by simp [results, Try.results11, go_sem, r0, r1, r2, g0, g1, g2]) rfl ⟨.slice p' k c', rfl, ?_, by (repeat (first | (with_reducible exact Below.refl _ _) | (with_reducible refine below_setCell ?_ (by first | (simp; done) | (simp; omega) | omega)) | (with_reducible refine below_alloc _ ?_) | (with_reducible refine below_drewN ?_ _) | (with_reducible assumption) | (with_reducible refine below_after (by assumption) ?_)))⟩
            exact (own_weakR (o4.keep (Nat.le_refl _) (by (repeat (first | (with_reducible exact Keep.refl _ _) | (with_reducible refine keep_set ?_ (by first | (simp; done) | (simp; omega) | omega)) | (with_reducible refine keep_alloc _ ?_) | (with_reducible refine keep_drewN ?_ _) | (with_reducible assumption) | (with_reducible refine keep_below (by assumption) ?_)))))).mono (by have := hb.size; omega)

end Go.Proofs.Ytfaefjdlfjhniaa

