/- The readers of encodings from whatever state: at a place, or failed. -/
import Derived.Test.YtbkhooklieangaaTexts2
namespace Go.Proofs.Ytbkhooklieangaa
open Go.RowKit

/-- A reader at a place, or one that has failed. -/
def SrcO (w : World) (g : Nat) (B : ByteArray) (o : Option Nat) : Prop :=
  ∃ a, SrcAt w g B a o.isNone ∧ ∀ st, o = some st → a = st ∧ st ≤ B.size
theorem srcO_some {w : World} {g : Nat} {B : ByteArray} {st : Nat} (h : SrcAt w g B st false) (hs : st ≤ B.size) : SrcO w g B (some st) := ⟨st, h, fun _ e => by injection e with e; subst e; exact ⟨rfl, hs⟩⟩
theorem srcO_none {w : World} {g : Nat} {B : ByteArray} {a : Nat} (h : SrcAt w g B a true) : SrcO w g B none := ⟨a, h, fun _ e => by cases e⟩
theorem SrcO.of_block {w w' : World} {g : Nat} {B : ByteArray} {o : Option Nat} (h : SrcO w g B o) (e : w'.heap[g]? = w.heap[g]?) : SrcO w' g B o := by
  obtain ⟨a, h2, h3⟩ := h
  exact ⟨a, h2.of_block e, h3⟩
theorem SrcO.lt {w : World} {g : Nat} {B : ByteArray} {o : Option Nat} (h : SrcO w g B o) : g < w.heap.size := by
  obtain ⟨a, h2, _⟩ := h
  exact h2.lt
theorem SrcO.below {w w' : World} {g : Nat} {B : ByteArray} {o : Option Nat} (h : SrcO w g B o) (k : Below w.heap.size w w') : SrcO w' g B o := h.of_block (k.block _ h.lt)
theorem SrcO.bad {w : World} {g : Nat} {B : ByteArray} {o : Option Nat} (h : SrcO w g B o) : w.cell? ⟨g, 2, none⟩ = some (.bool o.isNone) := by
  obtain ⟨a, h2, _⟩ := h
  exact h2.c2

theorem grown_cell {w w' : World} {g b o : Nat} {v : Value} (k : w.grownBy w' (some g)) (h : w.cell? ⟨b, o, none⟩ = some v) (hb : b ≠ g) : w'.cell? ⟨b, o, none⟩ = some v :=
  (World.cell?_of_block (w := w) (a := ⟨b, o, none⟩) (k.block b (World.block_lt_of_cell? _ _ h) (fun e => hb (Option.some.inj e)))).trans h
theorem grown_frozen {w w' : World} {g b o : Nat} {q : Bool} (k : w.grownBy w' (some g)) (h : w.frozen? ⟨b, o, none⟩ = q) (hb : b ≠ g) (hl : b < w.heap.size) : w'.frozen? ⟨b, o, none⟩ = q :=
  (World.frozen?_of_block (w := w) (a := ⟨b, o, none⟩) (k.block b hl (fun e => hb (Option.some.inj e)))).trans h
theorem grown_keep {w w' : World} {g B : Nat} (k : w.grownBy w' (some g)) (hg : g < B) : Keep B w w' :=
  ⟨k.size, fun i h1 h2 => k.block i h2 (fun e => by injection e with e; omega)⟩
theorem below_grown {w0 w w' : World} {g B : Nat} (h : Below B w0 w) (k : w.grownBy w' (some g)) (hg : B ≤ g) (hB : B ≤ w.heap.size) : Below B w0 w' :=
  ⟨k.os.trans h.os, k.tape.trans h.tape, k.output.trans h.output, Nat.le_trans h.size k.size, fun i hi => (k.block i (by omega) (fun e => by injection e with e; omega)).trans (h.block i hi)⟩

/-- A piece that was read, and the state behind it. -/
def Got {α : Type} (r : Option (α × Nat)) (x : α) : Option Nat → Prop
  | some st => r = some (x, st)
  | none => r = none
noncomputable def numO (B : ByteArray) (o : Option Nat) : Option (Nat × Nat) := o.bind fun st => (numOf (B.data.toList.drop st)).map fun n => (n, st + (numL n).length)
noncomputable def textO (B : ByteArray) (o : Option Nat) : Option (ByteArray × Nat) := o.bind (textOf B)
noncomputable def textsO (B : ByteArray) (o : Option Nat) : Option (List ByteArray × Nat) := o.bind (textsOf B)
def oneO (B : ByteArray) (o : Option Nat) : Option (Bool × Nat) := o.bind fun st => if h : st < B.size then some (B[st] == 1, st + 1) else none

/-- What a reading from whatever state comes to. -/
def GotP {α : Type} (B : ByteArray) (g : Nat) (w : World) (r : Option (α × Nat)) (mk : α → Value) (ok : α → Prop) (e : Ending) (w' : World) : Prop :=
  ∃ x o', e = .returned (mk x) ∧ ok x ∧ Got r x o' ∧ SrcO w' g B o' ∧ w.grownBy w' (some g)

/-- A number from a reader that had failed. -/
def BadO (B : ByteArray) (g : Nat) (w : World) (e : Ending) (w' : World) : Prop := e = .returned (.int .i64 0) ∧ (∃ a, SrcAt w' g B a true) ∧ w.grownBy w' (some g)

/-- impl.source.take where it had failed -/
theorem take_bad (w : World) (g at_ n : Nat) (B : ByteArray) (H : SrcAt w g B at_ true) :
    Calls Try.prog 77 #[.pointer (some ⟨g, 0, none⟩), .int .i64 (n : Int)] w fun e w' => e = .returned (.string ⟨#[]⟩) ∧ SrcAt w' g B at_ true ∧ w.grownBy w' (some g) := by
  have h := H
  obtain ⟨c0, c1, c2, f1, f2⟩ := h
  go_enter Try.func77, Try.ntmps77
  go_wp2
  go_quiet (fail)
  go_wp2_with fail
  refine (fail_any _ g at_ B true (H.drewN nq)).mono ?_
  rintro e w1 ⟨rfl, h1, k1⟩
  go_wp2
  go_ret
  exact ⟨rfl, h1, grown_trans (grown_drewN (World.grownBy.refl _ _) _) k1⟩
/-- spec.l1R.one where it had failed -/
theorem one_bad (w : World) (g at_ : Nat) (B : ByteArray) (H : SrcAt w g B at_ true) :
    Calls Try.prog 70 #[.pointer (some ⟨g, 0, none⟩)] w fun e w' => e = .returned (.int .i64 0) ∧ SrcAt w' g B at_ true ∧ w.grownBy w' (some g) := by
  have h := H
  obtain ⟨c0, c1, c2, f1, f2⟩ := h
  go_enter Try.func70, Try.ntmps70
  go_wp2
  go_quiet (fail)
  go_wp2
  go_ret
  exact ⟨rfl, (H.drewN nq).setBad true, grown_set (grown_drewN (World.grownBy.refl _ _) _) _ _⟩

theorem numOf_le {l : List UInt8} {n : Nat} (h : IsNum l n) : n ≤ 1000000000 := h.1

set_option maxRecDepth 100000 in
/-- impl.source.num where it had failed -/
theorem num_bad (w : World) (g a : Nat) (B : ByteArray) (h : SrcAt w g B a true) :
    Calls Try.prog 76 #[.pointer (some ⟨g, 0, none⟩)] w (BadO B g w) := by
  obtain ⟨c0, c1, c2, f1, f2⟩ := h
  have H : SrcAt w g B a true := ⟨c0, c1, c2, f1, f2⟩
  go_enter Try.func76, Try.ntmps76
  go_wp2
  go_loopw [4, 5, 6] (fun n f _ wr => n = .int .i64 0 ∧ f = .int .i64 1 ∧ SrcAt wr g B a true ∧ w.grownBy wr (some g)) (fun _ _ _ _ => 0)
  case atStart => exact ⟨rfl, rfl, H, World.grownBy.refl _ _⟩
  case round =>
    obtain ⟨rfl, rfl, Hr, kr⟩ := hrel
    go_wp2_with fail
    refine (take_bad _ g a 1 B Hr).mono ?_
    rintro e w1 ⟨rfl, h1, k1⟩
    have H1 := h1
    obtain ⟨d0, d1, d2, _, _⟩ := h1
    go_wp2
    go_ret
    exact ⟨rfl, ⟨a, H1⟩, grown_trans kr k1⟩

set_option maxRecDepth 100000 in
/-- spec.l1R.num where it had failed -/
theorem numS_bad (w : World) (g a : Nat) (B : ByteArray) (h : SrcAt w g B a true) :
    Calls Try.prog 69 #[.pointer (some ⟨g, 0, none⟩)] w (BadO B g w) := by
  obtain ⟨c0, c1, c2, f1, f2⟩ := h
  have H : SrcAt w g B a true := ⟨c0, c1, c2, f1, f2⟩
  go_enter Try.func69, Try.ntmps69
  go_wp2
  go_loopw [4, 5, 6, 7] (fun n f j _ wr => n = .int .i64 0 ∧ f = .int .i64 1 ∧ j = .int .i64 0 ∧ SrcAt wr g B a true ∧ w.grownBy wr (some g)) (fun _ _ _ _ _ => 0)
  case atStart => exact ⟨rfl, rfl, rfl, H, World.grownBy.refl _ _⟩
  case round =>
    obtain ⟨rfl, rfl, rfl, Hr, kr⟩ := hrel
    go_wp2_with fail
    refine (one_bad _ g a B Hr).mono ?_
    rintro e w1 ⟨rfl, h1, k1⟩
    have H1 := h1
    obtain ⟨d0, d1, d2, e1, e2⟩ := h1
    go_wp2
    go_quiet (fail)
    go_wp2
    go_ret
    exact ⟨rfl, ⟨a, (H1.drewN nq).setBad true⟩, grown_set (grown_drewN (grown_trans kr k1) _) _ _⟩

/-- impl.source.num -/
theorem num_o (w : World) (g : Nat) (B : ByteArray) (o : Option Nat) (h : SrcO w g B o) (hB : B.size ≤ 1048576) :
    Calls Try.prog 76 #[.pointer (some ⟨g, 0, none⟩)] w (GotP B g w (numO B o) (fun n : Nat => .int .i64 (n : Int)) (fun n => n ≤ 1000000000)) := by
  obtain ⟨a, hs, he⟩ := h
  cases o with
  | none =>
    refine (num_bad w g a B hs).mono ?_
    rintro e w' ⟨rfl, ⟨a', hs'⟩, k⟩
    exact ⟨0, none, rfl, Nat.zero_le _, rfl, srcO_none hs', k⟩
  | some st =>
    obtain ⟨rfl, ha⟩ := he st rfl
    refine (num_any w g a B hs ha hB).mono ?_
    rintro e w' (⟨n, hn, rfl, hs', k⟩ | ⟨hn, rfl, ⟨a', ha', hs'⟩, k⟩)
    · exact ⟨n, some (a + (numL n).length), rfl, hn.1, (by show (numOf _).map _ = _; rw [numOf_some hn]; rfl), srcO_some hs' (num_room ha hn), k⟩
    · exact ⟨0, none, rfl, Nat.zero_le _, (by show (numOf _).map _ = _; rw [numOf_none hn]; rfl), srcO_none hs', k⟩
/-- spec.l1R.num -/
theorem numS_o (w : World) (g : Nat) (B : ByteArray) (o : Option Nat) (h : SrcO w g B o) (hB : B.size ≤ 1048576) :
    Calls Try.prog 69 #[.pointer (some ⟨g, 0, none⟩)] w (GotP B g w (numO B o) (fun n : Nat => .int .i64 (n : Int)) (fun n => n ≤ 1000000000)) := by
  obtain ⟨a, hs, he⟩ := h
  cases o with
  | none =>
    refine (numS_bad w g a B hs).mono ?_
    rintro e w' ⟨rfl, ⟨a', hs'⟩, k⟩
    exact ⟨0, none, rfl, Nat.zero_le _, rfl, srcO_none hs', k⟩
  | some st =>
    obtain ⟨rfl, ha⟩ := he st rfl
    refine (numS_any w g a B hs ha hB).mono ?_
    rintro e w' (⟨n, hn, rfl, hs', k⟩ | ⟨hn, rfl, ⟨a', ha', hs'⟩, k⟩)
    · exact ⟨n, some (a + (numL n).length), rfl, hn.1, (by show (numOf _).map _ = _; rw [numOf_some hn]; rfl), srcO_some hs' (num_room ha hn), k⟩
    · exact ⟨0, none, rfl, Nat.zero_le _, (by show (numOf _).map _ = _; rw [numOf_none hn]; rfl), srcO_none hs', k⟩

/-- impl.source.take of one byte -/
theorem take_o (w : World) (g : Nat) (B : ByteArray) (o : Option Nat) (h : SrcO w g B o) (hB : B.size ≤ 1048576) :
    Calls Try.prog 77 #[.pointer (some ⟨g, 0, none⟩), .int .i64 1] w fun e w' => ∃ (s : ByteArray) (y : Bool) (o' : Option Nat), e = .returned (.string s) ∧ (s.toList == [1]) = y ∧ Got (oneO B o) y o' ∧ SrcO w' g B o' ∧ w.grownBy w' (some g) := by
  obtain ⟨a, hs, he⟩ := h
  cases o with
  | none =>
    refine (take_bad w g a 1 B hs).mono ?_
    rintro e w' ⟨rfl, hs', k⟩
    exact ⟨_, _, none, rfl, rfl, rfl, srcO_none hs', k⟩
  | some st =>
    obtain ⟨rfl, ha⟩ := he st rfl
    by_cases hlt : a < B.size
    · refine (take_yes w g a 1 B hs (by omega) hB).mono ?_
      rintro e w' ⟨rfl, hs', k⟩
      refine ⟨_, B[a] == 1, some (a + 1), rfl, ?_, ?_, srcO_some hs' (by omega), k⟩
      · have h1 : B.extract a (a + 1) = ⟨#[B[a]]⟩ := by
          apply ByteArray.ext
          apply Array.ext
          · simp; omega
          · intro i h1 h2
            have : i = 0 := by simp at h2; omega
            subst this
            simp
            rfl
        rw [h1, show (⟨#[B[a]]⟩ : ByteArray).toList = [B[a]] from by simp]
        simp
      · show (if h : a < B.size then some (B[a] == 1, a + 1) else none) = _
        rw [dif_pos hlt]
    · refine (take_no w g a 1 B false hs (Or.inr ⟨ha, by omega⟩) hB (by omega)).mono ?_
      rintro e w' ⟨rfl, hs', k⟩
      refine ⟨_, _, none, rfl, rfl, ?_, srcO_none hs', k⟩
      show (if h : a < B.size then some (B[a] == 1, a + 1) else none) = _
      rw [dif_neg hlt]
/-- spec.l1R.one -/
theorem one_o (w : World) (g : Nat) (B : ByteArray) (o : Option Nat) (h : SrcO w g B o) (hB : B.size ≤ 1048576) :
    Calls Try.prog 70 #[.pointer (some ⟨g, 0, none⟩)] w fun e w' => ∃ (x : Int) (y : Bool) (o' : Option Nat), e = .returned (.int .i64 x) ∧ (x == 1) = y ∧ Got (oneO B o) y o' ∧ SrcO w' g B o' ∧ w.grownBy w' (some g) := by
  obtain ⟨a, hs, he⟩ := h
  cases o with
  | none =>
    refine (one_bad w g a B hs).mono ?_
    rintro e w' ⟨rfl, hs', k⟩
    exact ⟨_, _, none, rfl, rfl, rfl, srcO_none hs', k⟩
  | some st =>
    obtain ⟨rfl, ha⟩ := he st rfl
    by_cases hlt : a < B.size
    · refine (one_yes w g a B hs hlt hB).mono ?_
      rintro e w' ⟨rfl, hs', k⟩
      refine ⟨_, B[a] == 1, some (a + 1), rfl, ?_, ?_, srcO_some hs' (by omega), k⟩
      · rw [Bool.eq_iff_iff]
        simp only [beq_iff_eq]
        constructor
        · intro h; exact UInt8.toNat_inj.1 (by rw [show (1 : UInt8).toNat = 1 from rfl]; omega)
        · intro h; rw [h]; rfl
      · show (if h : a < B.size then some (B[a] == 1, a + 1) else none) = _
        rw [dif_pos hlt]
    · refine (one_no w g a B false hs (Or.inr (by omega)) hB (by omega)).mono ?_
      rintro e w' ⟨rfl, hs', k⟩
      refine ⟨_, _, none, rfl, rfl, ?_, srcO_none hs', k⟩
      show (if h : a < B.size then some (B[a] == 1, a + 1) else none) = _
      rw [dif_neg hlt]

/-- impl.source.text where it had failed -/
theorem text_bad (w : World) (g a : Nat) (B : ByteArray) (h : SrcAt w g B a true) :
    Calls Try.prog 79 #[.pointer (some ⟨g, 0, none⟩)] w fun e w' => e = .returned (.string ⟨#[]⟩) ∧ (∃ a, SrcAt w' g B a true) ∧ w.grownBy w' (some g) := by
  go_enter Try.func79, Try.ntmps79
  go_wp2_with fail
  refine (num_bad _ g a B h).mono ?_
  rintro e w1 ⟨rfl, ⟨a1, h1⟩, k1⟩
  go_wp2_with fail
  refine (take_bad _ g a1 0 B h1).mono ?_
  rintro e w2 ⟨rfl, hs2, hg2⟩
  go_wp2
  go_ret
  exact ⟨rfl, ⟨a1, hs2⟩, grown_trans k1 hg2⟩
/-- spec.l1R.text where it had failed -/
theorem textS_bad (w : World) (g a : Nat) (B : ByteArray) (h : SrcAt w g B a true) :
    Calls Try.prog 72 #[.pointer (some ⟨g, 0, none⟩)] w fun e w' => e = .returned (.string ⟨#[]⟩) ∧ (∃ a, SrcAt w' g B a true) ∧ w.grownBy w' (some g) := by
  go_enter Try.func72, Try.ntmps72
  go_wp2_with fail
  refine (numS_bad _ g a B h).mono ?_
  rintro e w1 ⟨rfl, ⟨a1, h1⟩, k1⟩
  have H1 := h1
  obtain ⟨d0, d1, d2, e1, e2⟩ := h1
  go_wp2
  go_quiet (fail)
  go_wp2
  go_ret
  exact ⟨rfl, ⟨a1, (H1.drewN nq).setBad true⟩, grown_set (grown_drewN k1 _) _ _⟩

/-- impl.source.text -/
theorem text_o (w : World) (g : Nat) (B : ByteArray) (o : Option Nat) (h : SrcO w g B o) (hB : B.size ≤ 1048576) :
    Calls Try.prog 79 #[.pointer (some ⟨g, 0, none⟩)] w (GotP B g w (textO B o) Value.string (fun s => s.size ≤ 60)) := by
  obtain ⟨a, hs, he⟩ := h
  cases o with
  | none =>
    refine (text_bad w g a B hs).mono ?_
    rintro e w' ⟨rfl, ⟨a', hs'⟩, k⟩
    exact ⟨_, none, rfl, Nat.zero_le _, rfl, srcO_none hs', k⟩
  | some st =>
    obtain ⟨rfl, ha⟩ := he st rfl
    refine (text_any w g a B hs ha hB).mono ?_
    rintro e w' (⟨n, hn, h60, hfit, rfl, hs', k⟩ | ⟨hn, rfl, ⟨a', ha', hs'⟩, k⟩)
    · exact ⟨_, some _, rfl, (by show ByteArray.size _ ≤ 60; rw [ByteArray.size_extract]; omega), textOf_some hn h60 hfit, srcO_some hs' hfit, k⟩
    · exact ⟨_, none, rfl, Nat.zero_le _, textOf_none hn, srcO_none hs', k⟩
/-- spec.l1R.text -/
theorem textS_o (w : World) (g : Nat) (B : ByteArray) (o : Option Nat) (h : SrcO w g B o) (hB : B.size ≤ 1048576) :
    Calls Try.prog 72 #[.pointer (some ⟨g, 0, none⟩)] w (GotP B g w (textO B o) Value.string (fun s => s.size ≤ 60)) := by
  obtain ⟨a, hs, he⟩ := h
  cases o with
  | none =>
    refine (textS_bad w g a B hs).mono ?_
    rintro e w' ⟨rfl, ⟨a', hs'⟩, k⟩
    exact ⟨_, none, rfl, Nat.zero_le _, rfl, srcO_none hs', k⟩
  | some st =>
    obtain ⟨rfl, ha⟩ := he st rfl
    refine (textS_any w g a B hs ha hB).mono ?_
    rintro e w' (⟨n, hn, h60, hfit, rfl, hs', k⟩ | ⟨hn, rfl, ⟨a', ha', hs'⟩, k⟩)
    · exact ⟨_, some _, rfl, (by show ByteArray.size _ ≤ 60; rw [ByteArray.size_extract]; omega), textOf_some hn h60 hfit, srcO_some hs' hfit, k⟩
    · exact ⟨_, none, rfl, Nat.zero_le _, textOf_none hn, srcO_none hs', k⟩

/-- What a reading of texts from whatever state comes to. -/
def TextsO (B : ByteArray) (o : Option Nat) (g : Nat) (w : World) (e : Ending) (w' : World) : Prop :=
  ∃ (v : Value) (l : List ByteArray) (o' : Option Nat), e = .returned v ∧ w'.ownsRow w.heap.size 9 1 v l.length (l.map Value.string) ∧ Got (textsO B o) l o' ∧ SrcO w' g B o' ∧ w.grownBy w' (some g)

theorem textOf_end {B : ByteArray} {st p : Nat} {s : ByteArray} (h : textOf B st = some (s, p)) : p ≤ B.size ∧ s.size ≤ 60 := by
  unfold textOf at h
  cases hn : numOf (B.data.toList.drop st) with
  | none => rw [hn] at h; cases h
  | some n =>
    rw [hn] at h
    by_cases h1 : n ≤ 60
    · by_cases h2 : st + (numL n).length + n ≤ B.size
      · simp only [h1, h2, decide_true, Bool.and_true, cond_true] at h
        injection h with h
        injection h with h3 h4
        subst h3 h4
        exact ⟨h2, by rw [ByteArray.size_extract]; omega⟩
      · simp only [h2, decide_false, Bool.and_false, cond_false] at h
        cases h
    · simp only [h1, decide_false, Bool.false_and, cond_false] at h
      cases h
theorem textsF_end {B : ByteArray} : ∀ (n st : Nat) (l : List ByteArray) (q : Nat), textsF n B st = some (l, q) → st ≤ B.size → q ≤ B.size ∧ ∀ k (h : k < l.length), l[k].size ≤ 60
  | 0, st, l, q, h, hst => by
    injection h with h
    injection h with h1 h2
    subst h1 h2
    exact ⟨hst, fun k hk => by simp at hk⟩
  | n + 1, st, l, q, h, hst => by
    cases ht : textOf B st with
    | none => rw [textsF_stop ht] at h; cases h
    | some sp =>
      obtain ⟨s, p⟩ := sp
      rw [textsF_step ht] at h
      obtain ⟨hp, hs⟩ := textOf_end ht
      cases hf : textsF n B p with
      | none => rw [hf] at h; cases h
      | some r =>
        obtain ⟨l', q'⟩ := r
        rw [hf] at h
        injection h with h
        injection h with h1 h2
        subst h1 h2
        obtain ⟨h3, h4⟩ := textsF_end n p l' q' hf hp
        refine ⟨h3, fun k hk => ?_⟩
        cases k with
        | zero => exact hs
        | succ k => exact h4 k (by simpa using hk)
theorem textsOf_end {B : ByteArray} {st q : Nat} {l : List ByteArray} (h : textsOf B st = some (l, q)) (hst : st ≤ B.size) (hd : ∀ n, numOf (B.data.toList.drop st) = some n → IsNum (B.data.toList.drop st) n) : q ≤ B.size ∧ ∀ k (h : k < l.length), l[k].size ≤ 60 := by
  unfold textsOf at h
  cases hn : numOf (B.data.toList.drop st) with
  | none => rw [hn] at h; cases h
  | some n =>
    rw [hn] at h
    by_cases h4 : n ≤ 40
    · simp only [h4, decide_true, cond_true] at h
      exact textsF_end n _ l q h (num_room hst (hd n hn))
    · simp only [h4, decide_false, cond_false] at h
      cases h
theorem numOf_is {l : List UInt8} {n : Nat} (h : numOf l = some n) : IsNum l n := by
  by_cases hx : ∃ m, IsNum l m
  · obtain ⟨m, hm⟩ := hx
    rw [numOf_some hm] at h
    injection h with h
    subst h
    exact hm
  · rw [numOf_none (fun m hm => hx ⟨m, hm⟩)] at h
    cases h

set_option maxRecDepth 100000 in
/-- impl.source.texts where it had failed -/
theorem texts_bad (w : World) (g a : Nat) (B : ByteArray) (h : SrcAt w g B a true) :
    Calls Try.prog 78 #[.pointer (some ⟨g, 0, none⟩)] w (TextsO B none g w) := by
  go_enter Try.func78, Try.ntmps78
  go_wp2_with fail
  refine (num_bad _ g a B h).mono ?_
  rintro e w1 ⟨rfl, ⟨a1, h1⟩, k1⟩
  have hsz := k1.size
  go_wp2
  go_loopw [4, 5] (fun v i wr => i = .int .i64 0 ∧ v = .slice (some ⟨w1.heap.size, 0, none⟩) 0 0 ∧ wr = w1.alloc (.cells #[] 9)) (fun _ _ _ => 0)
  case atStart => exact ⟨rfl, rfl, rfl⟩
  case round =>
    obtain ⟨rfl, rfl, rfl⟩ := hrel
    go_wp2
    go_ret
    exact ⟨_, [], none, rfl, World.ownsRow_made _ _ _ hsz (by simp) rfl, rfl, srcO_none (h1.below (below_new _ _)), grown_below k1 (below_new _ _)⟩
set_option maxRecDepth 100000 in
/-- spec.l1R.texts where it had failed -/
theorem textsS_bad (w : World) (g a : Nat) (B : ByteArray) (h : SrcAt w g B a true) :
    Calls Try.prog 71 #[.pointer (some ⟨g, 0, none⟩)] w (TextsO B none g w) := by
  go_enter Try.func71, Try.ntmps71
  go_wp2_with fail
  refine (numS_bad _ g a B h).mono ?_
  rintro e w1 ⟨rfl, ⟨a1, h1⟩, k1⟩
  go_wp2
  go_loopw [3, 4] (fun i v wr => i = .int .i64 0 ∧ v = .slice none 0 0 ∧ wr = w1) (fun _ _ _ => 0)
  case atStart => exact ⟨rfl, rfl, rfl⟩
  case round =>
    obtain ⟨rfl, rfl, rfl⟩ := hrel
    go_wp2
    go_ret
    exact ⟨_, [], none, rfl, World.ownsRow_nil _ _ _ _, rfl, srcO_none h1, k1⟩

/-- impl.source.texts -/
theorem texts_o (w : World) (g : Nat) (B : ByteArray) (o : Option Nat) (h : SrcO w g B o) (hB : B.size ≤ 1048576) :
    Calls Try.prog 78 #[.pointer (some ⟨g, 0, none⟩)] w (TextsO B o g w) := by
  obtain ⟨a, hs, he⟩ := h
  cases o with
  | none => exact texts_bad w g a B hs
  | some st =>
    obtain ⟨rfl, ha⟩ := he st rfl
    refine (texts_any w g a B hs ha hB).mono ?_
    rintro e w' ⟨v, l, at_, b, rfl, h1, h2, h3, ⟨rfl, h4⟩ | ⟨rfl, h4⟩⟩
    · exact ⟨v, l, some at_, rfl, h3, h4.out, srcO_some h1 (textsOf_end h4.out ha fun _ => numOf_is).1, h2⟩
    · exact ⟨v, l, none, rfl, h3, h4.out, srcO_none h1, h2⟩
/-- spec.l1R.texts -/
theorem textsS_o (w : World) (g : Nat) (B : ByteArray) (o : Option Nat) (h : SrcO w g B o) (hB : B.size ≤ 1048576) :
    Calls Try.prog 71 #[.pointer (some ⟨g, 0, none⟩)] w (TextsO B o g w) := by
  obtain ⟨a, hs, he⟩ := h
  cases o with
  | none => exact textsS_bad w g a B hs
  | some st =>
    obtain ⟨rfl, ha⟩ := he st rfl
    refine (textsS_any w g a B hs ha hB).mono ?_
    rintro e w' ⟨v, l, at_, b, rfl, h1, h2, h3, ⟨rfl, h4⟩ | ⟨rfl, h4⟩⟩
    · exact ⟨v, l, some at_, rfl, h3, h4.out, srcO_some h1 (textsOf_end h4.out ha fun _ => numOf_is).1, h2⟩
    · exact ⟨v, l, none, rfl, h3, h4.out, srcO_none h1, h2⟩

end Go.Proofs.Ytbkhooklieangaa
