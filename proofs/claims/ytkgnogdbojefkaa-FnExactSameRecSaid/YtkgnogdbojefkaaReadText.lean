/- ReadText, both. -/
import Derived.Test.YtkgnogdbojefkaaReadNum
namespace Go.Proofs.Ytkgnogdbojefkaa
open Go.RowKit

/-- What a reading of a text from the place st comes to. -/
def TextPost (B : ByteArray) (st g : Nat) (w : World) (e : Ending) (w' : World) : Prop :=
  (∃ n : Nat, IsNum (B.data.toList.drop st) n ∧ n ≤ 60 ∧ st + (numL n).length + n ≤ B.size ∧ e = .returned (.string (B.extract (st + (numL n).length) (st + (numL n).length + n))) ∧ SrcAt w' g B (st + (numL n).length + n) false ∧ w.grownBy w' (some g)) ∨
  ((∀ n, IsNum (B.data.toList.drop st) n → 60 < n ∨ B.size < st + (numL n).length + n) ∧ e = .returned (.string ⟨#[]⟩) ∧ (∃ a, a ≤ B.size ∧ SrcAt w' g B a true) ∧ w.grownBy w' (some g))

theorem wrap_in {x : Int} (h0 : -9223372036854775808 ≤ x) (h1 : x ≤ 9223372036854775807) : IntKind.i64.wrap x = x := by
  simp [IntKind.wrap, IntKind.signed, IntKind.bits]
  omega

theorem num_room {B : ByteArray} {st n : Nat} (hst : st ≤ B.size) (h : IsNum (B.data.toList.drop st) n) : st + (numL n).length ≤ B.size := by
  have h2 := List.IsPrefix.length_le h.2
  have hl : (B.data.toList.drop st).length = B.size - st := by rw [List.length_drop, Array.length_toList]; rfl
  omega

/-- impl.source.text -/
theorem text_any (w : World) (g st : Nat) (B : ByteArray) (h : SrcAt w g B st false) (hst : st ≤ B.size) (hB : B.size ≤ 1048576) :
    Calls Try.prog 88 #[.pointer (some ⟨g, 0, none⟩)] w (TextPost B st g w) := by
  go_enter Try.func88, Try.ntmps88
  go_wp2_with fail
  refine (num_any _ g st B h hst hB).mono ?_
  rintro e w1 (⟨n, hn, rfl, hs, hg⟩ | ⟨hn, rfl, ⟨a, ha, hs⟩, hg⟩)
  · have hroom := num_room hst hn
    have hn1 := hn.1
    have Hn := Lib.hid hn
    clear hn
    by_cases hbig : 60 < n
    · have hbig2 : (60 : Int) < (n : Int) := by omega
      go_wp2_with fail
      refine (fail_any _ g _ B false hs).mono ?_
      rintro e w2 ⟨rfl, hs2, hg2⟩
      go_wp2
      go_ret
      exact Or.inr ⟨fun m hm => Or.inl (by rw [num_unique hm Hn.out]; exact hbig), rfl, ⟨_, hroom, hs2⟩, grown_trans hg hg2⟩
    · have hbig2 : (n : Int) ≤ 60 := by omega
      by_cases hfit : st + (numL n).length + n ≤ B.size
      · go_wp2_with fail
        refine (take_yes _ g _ n B hs hfit hB).mono ?_
        rintro e w2 ⟨rfl, hs2, hg2⟩
        go_wp2
        go_ret
        exact Or.inl ⟨n, Hn.out, by omega, hfit, rfl, hs2, grown_trans hg hg2⟩
      · go_wp2_with fail
        refine (take_no _ g _ n B false hs (Or.inr ⟨hroom, by omega⟩) hB (by omega)).mono ?_
        rintro e w2 ⟨rfl, hs2, hg2⟩
        go_wp2
        go_ret
        exact Or.inr ⟨fun m hm => Or.inr (by rw [num_unique hm Hn.out]; omega), rfl, ⟨_, hroom, hs2⟩, grown_trans hg hg2⟩
  · have Hn := Lib.hid hn
    clear hn
    go_wp2_with fail
    refine (take_no _ g a 0 B true hs (Or.inl rfl) hB (by omega)).mono ?_
    rintro e w2 ⟨rfl, hs2, hg2⟩
    go_wp2
    go_ret
    exact Or.inr ⟨fun m hm => absurd hm (Hn.out m), rfl, ⟨_, ha, hs2⟩, grown_trans hg hg2⟩

/-- spec.l1R.text -/
theorem textS_any (w : World) (g st : Nat) (B : ByteArray) (h : SrcAt w g B st false) (hst : st ≤ B.size) (hB : B.size ≤ 1048576) :
    Calls Try.prog 87 #[.pointer (some ⟨g, 0, none⟩)] w (TextPost B st g w) := by
  have hB1 : (B.size : Int) ≤ 1048576 := by omega
  go_enter Try.func87, Try.ntmps87
  go_wp2_with fail
  refine (numS_any _ g st B h hst hB).mono ?_
  rintro e w1 (⟨n, hn, rfl, hs, hg⟩ | ⟨hn, rfl, ⟨a, ha, hs⟩, hg⟩)
  · have hroom := num_room hst hn
    have hn1 := hn.1
    have Hn := Lib.hid hn
    clear hn
    obtain ⟨p, hp⟩ : ∃ p : Nat, st + (numL n).length = p := ⟨_, rfl⟩
    rw [hp] at hs hroom
    have hwr : IntKind.i64.wrap ((p : Int) + (n : Int)) = (p : Int) + (n : Int) := wrap_in (by omega) (by omega)
    have Hp := Lib.hid hp
    clear hp
    have hs' := hs
    obtain ⟨d0, d1, d2, g1, g2⟩ := hs'
    by_cases hbig : 60 < n
    · have hbig2 : (60 : Int) < (n : Int) := by omega
      go_wp2
      go_quiet (fail)
      go_wp2
      go_ret
      exact Or.inr ⟨fun m hm => Or.inl (by rw [num_unique hm Hn.out]; exact hbig), rfl, ⟨_, hroom, (hs.drewN nq).setBad true⟩, grown_set (grown_drewN hg _) _ _⟩
    · have hbig2 : (n : Int) ≤ 60 := by omega
      by_cases hfit : p + n ≤ B.size
      · have hfit2 : (p : Int) + (n : Int) ≤ (B.size : Int) := by omega
        go_wp2
        go_quiet (fail)
        go_wp2
        have hs2 := (hs.drewN nq).setAt (p + n)
        go_quiet (fail)
        go_wp2
        go_ret
        exact Or.inl ⟨n, Hn.out, by omega, by rw [Hp.out]; exact hfit, by rw [Hp.out]; rfl, by rw [Hp.out]; exact hs2.drewN _, grown_drewN (grown_set (grown_drewN hg _) _ _) _⟩
      · have hfit2 : (B.size : Int) < (p : Int) + (n : Int) := by omega
        go_wp2
        go_quiet (fail)
        go_wp2
        go_ret
        exact Or.inr ⟨fun m hm => Or.inr (by rw [num_unique hm Hn.out, Hp.out]; omega), rfl, ⟨_, hroom, (hs.drewN nq).setBad true⟩, grown_set (grown_drewN hg _) _ _⟩
  · have Hn := Lib.hid hn
    clear hn
    have hs' := hs
    obtain ⟨d0, d1, d2, g1, g2⟩ := hs'
    go_wp2
    go_quiet (fail)
    go_wp2
    go_ret
    exact Or.inr ⟨fun m hm => absurd hm (Hn.out m), rfl, ⟨_, ha, (hs.drewN nq).setBad true⟩, grown_set (grown_drewN hg _) _ _⟩

/-- The text with which bytes go on at a place, and the place behind it. -/
noncomputable def textOf (B : ByteArray) (st : Nat) : Option (ByteArray × Nat) :=
  match numOf (B.data.toList.drop st) with
  | some n => bif decide (n ≤ 60) && decide (st + (numL n).length + n ≤ B.size) then some (B.extract (st + (numL n).length) (st + (numL n).length + n), st + (numL n).length + n) else none
  | none => none
theorem textOf_some {B : ByteArray} {st n : Nat} (h : IsNum (B.data.toList.drop st) n) (h1 : n ≤ 60) (h2 : st + (numL n).length + n ≤ B.size) :
    textOf B st = some (B.extract (st + (numL n).length) (st + (numL n).length + n), st + (numL n).length + n) := by
  unfold textOf
  rw [numOf_some h]
  simp [h1, h2]
theorem textOf_none {B : ByteArray} {st : Nat} (h : ∀ n, IsNum (B.data.toList.drop st) n → 60 < n ∨ B.size < st + (numL n).length + n) : textOf B st = none := by
  unfold textOf
  by_cases hx : ∃ n, IsNum (B.data.toList.drop st) n
  · obtain ⟨n, hn⟩ := hx
    rw [numOf_some hn]
    rcases h n hn with h1 | h1
    · simp only [show decide (n ≤ 60) = false from by simp; omega, Bool.false_and, cond_false]
    · simp only [show decide (st + (numL n).length + n ≤ B.size) = false from by simp; omega, Bool.and_false, cond_false]
  · rw [numOf_none (fun n hn => hx ⟨n, hn⟩)]

/-- What ReadText returns. -/
noncomputable def readTextR (B : ByteArray) (at_ : Int) : ByteArray × Int × Bool :=
  match placeB B at_ 6000, textOf B at_.toNat with
  | true, some (s, p) => (s, (p : Int), true)
  | _, _ => (⟨#[]⟩, 0, false)

/-- impl.ReadText -/
theorem readText_any (B : ByteArray) (at_ : Int) (hB : B.size ≤ 1048576) (w : World) :
    Calls Try.prog 29 #[.string B, .int .i64 at_] w fun e w' => e = .returned (.tuple #[.string (readTextR B at_).1, .int .i64 (readTextR B at_).2.1, .bool (readTextR B at_).2.2]) ∧ Below w.heap.size w w' := by
  have Hc := Lib.hid (sourceAt_any B at_ 6000 hB)
  cases hq : placeB B at_ 6000
  · have Hr : Hid (readTextR B at_ = (⟨#[]⟩, 0, false)) := Lib.hid (by unfold readTextR; rw [hq])
    rw [hq] at Hc
    generalize readTextR B at_ = r at *
    obtain rfl := Hr.out
    clear Hr hq
    go_enter Try.func29, Try.ntmps29
    go_wp2_with (go_at_call 76; refine (Hc.out _).mono ?_; rintro e w1 ⟨rfl, rfl⟩)
    go_ret3
    exact ⟨rfl, below_new _ _⟩
  · have hp := hq
    unfold placeB at hp
    rw [Bool.and_eq_true] at hp
    obtain ⟨h0, h1⟩ := inB_iff.1 hp.2
    obtain ⟨st, rfl⟩ := Int.eq_ofNat_of_zero_le h0
    have hst : st ≤ B.size := by omega
    rw [hq] at Hc
    clear hp h0 h1
    have Hq := Lib.hid hq
    clear hq
    go_enter Try.func29, Try.ntmps29
    go_wp2_with (go_at_call 76; refine (Hc.out _).mono ?_; rintro e w1 ⟨rfl, rfl⟩)
    refine (text_any _ w.heap.size st B (src_new w B st _) hst hB).mono ?_
    rintro e w1 (⟨n, hn, h6, hf, rfl, hs, hg⟩ | ⟨hn, rfl, ⟨a, ha, hs⟩, hg⟩)
    · have Hr : Hid (readTextR B st = (B.extract (st + (numL n).length) (st + (numL n).length + n), ((st + (numL n).length + n : Nat) : Int), true)) := Lib.hid (by unfold readTextR; rw [Hq.out, Int.toNat_natCast, textOf_some hn h6 hf])
      have hs' := hs
      obtain ⟨d0, d1, d2, g1, g2⟩ := hs'
      go_wp2
      go_quiet (fail)
      go_wp2
      go_ret3
      exact ⟨by rw [Hr.out]; rfl, below_drewN (grown_new hg) _⟩
    · have Hr : Hid (readTextR B st = (⟨#[]⟩, 0, false)) := Lib.hid (by unfold readTextR; rw [Int.toNat_natCast, textOf_none hn]; cases placeB B st 6000 <;> rfl)
      have hs' := hs
      obtain ⟨d0, d1, d2, g1, g2⟩ := hs'
      go_wp2
      go_ret3
      exact ⟨by rw [Hr.out]; rfl, grown_new hg⟩

/-- spec.ReadText -/
theorem readTextS_any (B : ByteArray) (at_ : Int) (hB : B.size ≤ 1048576) (w : World) :
    Calls Try.prog 28 #[.string B, .int .i64 at_] w fun e w' => e = .returned (.tuple #[.string (readTextR B at_).1, .int .i64 (readTextR B at_).2.1, .bool (readTextR B at_).2.2]) ∧ Below w.heap.size w w' := by
  have Hc := Lib.hid (l1Place_any B at_ hB)
  cases hq : placeB B at_ 6000
  · have Hr : Hid (readTextR B at_ = (⟨#[]⟩, 0, false)) := Lib.hid (by unfold readTextR; rw [hq])
    rw [hq] at Hc
    generalize readTextR B at_ = r at *
    obtain rfl := Hr.out
    clear Hr hq
    go_enter Try.func28, Try.ntmps28
    go_wp2_with (go_at_call 74; refine (Hc.out _).mono ?_; rintro e w1 ⟨rfl, rfl⟩)
    go_ret3
    exact ⟨rfl, Below.refl _ _⟩
  · have hp := hq
    unfold placeB at hp
    rw [Bool.and_eq_true] at hp
    obtain ⟨h0, h1⟩ := inB_iff.1 hp.2
    obtain ⟨st, rfl⟩ := Int.eq_ofNat_of_zero_le h0
    have hst : st ≤ B.size := by omega
    rw [hq] at Hc
    clear hp h0 h1
    have Hq := Lib.hid hq
    clear hq
    go_enter Try.func28, Try.ntmps28
    go_wp2_with (go_at_call 74; refine (Hc.out _).mono ?_; rintro e w1 ⟨rfl, rfl⟩)
    refine (textS_any _ w.heap.size st B (src_new w B st _) hst hB).mono ?_
    rintro e w1 (⟨n, hn, h6, hf, rfl, hs, hg⟩ | ⟨hn, rfl, ⟨a, ha, hs⟩, hg⟩)
    · have Hr : Hid (readTextR B st = (B.extract (st + (numL n).length) (st + (numL n).length + n), ((st + (numL n).length + n : Nat) : Int), true)) := Lib.hid (by unfold readTextR; rw [Hq.out, Int.toNat_natCast, textOf_some hn h6 hf])
      have hs' := hs
      obtain ⟨d0, d1, d2, g1, g2⟩ := hs'
      go_wp2
      go_quiet (fail)
      go_wp2
      go_ret3
      exact ⟨by rw [Hr.out]; rfl, below_drewN (grown_new hg) _⟩
    · have Hr : Hid (readTextR B st = (⟨#[]⟩, 0, false)) := Lib.hid (by unfold readTextR; rw [Int.toNat_natCast, textOf_none hn]; cases placeB B st 6000 <;> rfl)
      have hs' := hs
      obtain ⟨d0, d1, d2, g1, g2⟩ := hs'
      go_wp2
      go_ret3
      exact ⟨by rw [Hr.out]; rfl, grown_new hg⟩

end Go.Proofs.Ytkgnogdbojefkaa
