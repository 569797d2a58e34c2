/- ReadFrame, both. -/
import Derived.Test.YtekgackednpdgaaReadNum
import Derived.Test.YtekgackednpdgaaReadText
import Derived.Test.YtekgackednpdgaaDisk3
namespace Go.Proofs.Ytekgackednpdgaa
open Go.RowKit

/-- The frame with which bytes go on at a place, and the place behind it. -/
noncomputable def frameOf (B : ByteArray) (st : Nat) : Option (ByteArray × Nat) :=
  match numOf (B.data.toList.drop st) with
  | some n => bif decide (n ≤ 700) && decide (st + (numL n).length + n + 3 ≤ B.size) && decide (sealB (B.extract (st + (numL n).length) (st + (numL n).length + n)) = B.extract (st + (numL n).length) (st + (numL n).length + n) ++ B.extract (st + (numL n).length + n) (st + (numL n).length + n + 3))
    then some (B.extract (st + (numL n).length) (st + (numL n).length + n), st + (numL n).length + n + 3) else none
  | none => none
theorem frameOf_none {B : ByteArray} {st : Nat} (h : ∀ n, ¬ IsNum (B.data.toList.drop st) n) : frameOf B st = none := by
  unfold frameOf
  rw [numOf_none h]
theorem frameOf_big {B : ByteArray} {st n : Nat} (hn : IsNum (B.data.toList.drop st) n) (h : 700 < n) : frameOf B st = none := by
  unfold frameOf
  rw [numOf_some hn]
  simp only [show decide (n ≤ 700) = false from by simp; omega, Bool.false_and, cond_false]
theorem frameOf_short {B : ByteArray} {st n : Nat} (hn : IsNum (B.data.toList.drop st) n) (h : B.size < st + (numL n).length + n + 3) : frameOf B st = none := by
  unfold frameOf
  rw [numOf_some hn]
  simp only [show decide (st + (numL n).length + n + 3 ≤ B.size) = false from by simp; omega, Bool.and_false, Bool.false_and, cond_false]
theorem frameOf_bad {B : ByteArray} {st n p : Nat} (hn : IsNum (B.data.toList.drop st) n) (hp : st + (numL n).length = p) (h : ¬ sealB (B.extract p (p + n)) = B.extract p (p + n) ++ B.extract (p + n) (p + n + 3)) : frameOf B st = none := by
  subst hp
  unfold frameOf
  rw [numOf_some hn]
  simp only [h, decide_false, Bool.and_false, cond_false]
theorem frameOf_some {B : ByteArray} {st n p : Nat} (hn : IsNum (B.data.toList.drop st) n) (hp : st + (numL n).length = p) (h1 : n ≤ 700) (h2 : p + n + 3 ≤ B.size) (h : sealB (B.extract p (p + n)) = B.extract p (p + n) ++ B.extract (p + n) (p + n + 3)) : frameOf B st = some (B.extract p (p + n), p + n + 3) := by
  subst hp
  unfold frameOf
  rw [numOf_some hn]
  simp only [h1, h2, h, decide_true, Bool.and_true, cond_true]

noncomputable def frameP (B : ByteArray) (st : Nat) : ByteArray × Int × Bool :=
  match frameOf B st with
  | some (s, p) => (s, (p : Int), true)
  | none => (⟨#[]⟩, 0, false)
theorem frameP_none {B : ByteArray} {st : Nat} (h : frameOf B st = none) : frameP B st = (⟨#[]⟩, 0, false) := by unfold frameP; rw [h]
theorem frameP_some {B : ByteArray} {st p : Nat} {s : ByteArray} (h : frameOf B st = some (s, p)) : frameP B st = (s, (p : Int), true) := by unfold frameP; rw [h]

set_option maxRecDepth 100000 in
set_option maxHeartbeats 1600000 in
/-- impl.readFrame -/
theorem readFrame_any (B : ByteArray) (st : Nat) (hst : st ≤ B.size) (hB : B.size ≤ 1048576) (w : World) :
    Calls Try.prog 142 #[.string B, .int .i64 (st : Int)] w fun e w' => e = .returned (.tuple #[.string (frameP B st).1, .int .i64 (frameP B st).2.1, .bool (frameP B st).2.2]) ∧ Below w.heap.size w w' := by
  go_enter Try.func142, Try.ntmps142
  go_wp2_with fail
  refine (num_any _ w.heap.size st B (src_new w B st _) hst hB).mono ?_
  rintro e w1 (⟨n, hn, rfl, hs, hg⟩ | ⟨hn, rfl, ⟨a, ha, hs⟩, hg⟩)
  · have hroom := num_room hst hn
    have hn1 := hn.1
    have Hn := Lib.hid hn
    clear hn
    obtain ⟨p, hp⟩ : ∃ p : Nat, st + (numL n).length = p := ⟨_, rfl⟩
    rw [hp] at hs hroom
    have Hp := Lib.hid hp
    clear hp
    by_cases hbig : 700 < n
    · have hbig2 : (700 : Int) < (n : Int) := by omega
      have Hr := Lib.hid (frameP_none (frameOf_big Hn.out hbig))
      go_wp2
      go_ret3
      exact ⟨by rw [Hr.out]; rfl, grown_new hg⟩
    · have hbig2 : (n : Int) ≤ 700 := by omega
      by_cases hfit : p + n ≤ B.size
      · go_wp2_with fail
        refine (take_yes _ _ p n B hs hfit hB).mono ?_
        rintro e w2 ⟨rfl, hs2, hg2⟩
        by_cases hfit3 : p + n + 3 ≤ B.size
        · go_wp2_with fail
          refine (take_yes _ _ (p + n) 3 B hs2 hfit3 hB).mono ?_
          rintro e w3 ⟨rfl, hs3, hg3⟩
          have hs' := hs3
          obtain ⟨d0, d1, d2, g1, g2⟩ := hs'
          have hsz : (B.extract p (p + n)).size = n := by rw [ByteArray.size_extract]; omega
          have hsz3 : (B.extract (p + n) (p + n + 3)).size = 3 := by rw [ByteArray.size_extract]; omega
          have hadd := fun W => run_string_add_sum (P := Try.prog) (w := W) (B.extract p (p + n)) (B.extract (p + n) (p + n + 3)) (by rw [hsz, hsz3]; omega)
          have Hd := Lib.hid (seal_any (B.extract p (p + n)) (by rw [hsz]; omega))
          by_cases heq : sealB (B.extract p (p + n)) = B.extract p (p + n) ++ B.extract (p + n) (p + n + 3)
          · have Hr := Lib.hid (frameP_some (frameOf_some Hn.out Hp.out (by omega) hfit3 heq))
            rw [heq] at Hd
            clear heq
            generalize B.extract p (p + n) = s at *
            generalize B.extract (p + n) (p + n + 3) = t at *
            have hgl := hs3.lt
            go_wp2_with fail
            refine (Hd.out _).mono ?_
            rintro e w4 ⟨rfl, hb4⟩
            have hs4 := hs3.below hb4
            have hs4' := hs4
            obtain ⟨d0', d1', d2', g1', g2'⟩ := hs4'
            go_wp2
            go_quiet (fail)
            go_wp2
            go_ret3
            exact ⟨by rw [Hr.out]; rfl, below_drewN (grown_new (grown_below (grown_trans (grown_trans hg hg2) hg3) hb4)) _⟩
          · have Hr := Lib.hid (frameP_none (frameOf_bad Hn.out Hp.out heq))
            have hne := str_ne heq
            clear heq
            generalize B.extract p (p + n) = s at *
            generalize B.extract (p + n) (p + n + 3) = t at *
            go_wp2_with fail
            refine (Hd.out _).mono ?_
            rintro e w4 ⟨rfl, hb4⟩
            go_wp2
            go_ret3
            exact ⟨by rw [Hr.out]; rfl, grown_new (grown_below (grown_trans (grown_trans hg hg2) hg3) hb4)⟩
        · have Hr := Lib.hid (frameP_none (frameOf_short Hn.out (by rw [Hp.out]; omega)))
          go_wp2_with fail
          refine (take_no _ _ (p + n) 3 B false hs2 (Or.inr ⟨hfit, by omega⟩) hB (by omega)).mono ?_
          rintro e w3 ⟨rfl, hs3, hg3⟩
          have hs' := hs3
          obtain ⟨d0, d1, d2, g1, g2⟩ := hs'
          go_wp2
          go_ret3
          exact ⟨by rw [Hr.out]; rfl, grown_new (grown_trans (grown_trans hg hg2) hg3)⟩
      · have Hr := Lib.hid (frameP_none (frameOf_short Hn.out (by rw [Hp.out]; omega)))
        go_wp2_with fail
        refine (take_no _ _ p n B false hs (Or.inr ⟨hroom, by omega⟩) hB (by omega)).mono ?_
        rintro e w2 ⟨rfl, hs2, hg2⟩
        go_wp2_with fail
        refine (take_no _ _ p 3 B true hs2 (Or.inl rfl) hB (by omega)).mono ?_
        rintro e w3 ⟨rfl, hs3, hg3⟩
        have hs' := hs3
        obtain ⟨d0, d1, d2, g1, g2⟩ := hs'
        go_wp2
        go_ret3
        exact ⟨by rw [Hr.out]; rfl, grown_new (grown_trans (grown_trans hg hg2) hg3)⟩
  · have Hr := Lib.hid (frameP_none (frameOf_none hn))
    go_wp2_with fail
    refine (take_no _ _ a 0 B true hs (Or.inl rfl) hB (by omega)).mono ?_
    rintro e w2 ⟨rfl, hs2, hg2⟩
    go_wp2_with fail
    refine (take_no _ _ a 3 B true hs2 (Or.inl rfl) hB (by omega)).mono ?_
    rintro e w3 ⟨rfl, hs3, hg3⟩
    have hs' := hs3
    obtain ⟨d0, d1, d2, g1, g2⟩ := hs'
    go_wp2
    go_ret3
    exact ⟨by rw [Hr.out]; rfl, grown_new (grown_trans (grown_trans hg hg2) hg3)⟩

/-- impl.ReadFrame's answer. -/
noncomputable def readFrameR (B : ByteArray) (at_ : Int) : ByteArray × Int × Bool :=
  bif decide (B.size ≤ 50000) && inB at_ 0 B.size then frameP B at_.toNat else (⟨#[]⟩, 0, false)

theorem ext_split (B : ByteArray) {a b c : Nat} (h : a ≤ b) (k : b ≤ c) : B.extract a c = B.extract a b ++ B.extract b c := by
  rw [ByteArray.extract_append_extract, Nat.min_eq_left h, Nat.max_eq_right k]

theorem num_bytes {B : ByteArray} {st n p : Nat} (hn : IsNum (B.data.toList.drop st) n) (hp : st + (numL n).length = p) : B.extract st p = numB n := by
  subst hp
  have h1 := List.prefix_iff_eq_take.1 hn.2
  have h3 : (B.extract st (st + (numL n).length)).data.toList = (numB n).data.toList := by
    rw [ByteArray.data_extract, Array.toList_extract, List.extract_eq_take_drop, Nat.add_sub_cancel_left, ← h1]
    simp [numB]
  exact str_eq_iff.1 (by rw [ByteArray.toList_eq, ByteArray.toList_eq]; exact h3)

theorem frame_iff {B : ByteArray} {st n p : Nat} (hn : IsNum (B.data.toList.drop st) n) (hp : st + (numL n).length = p) (hs : p + n + 3 ≤ B.size) :
    frameB (B.extract p (p + n)) = B.extract st (p + n + 3) ↔ sealB (B.extract p (p + n)) = B.extract p (p + n) ++ B.extract (p + n) (p + n + 3) := by
  have hsz : (B.extract p (p + n)).size = n := by rw [ByteArray.size_extract]; omega
  unfold frameB
  rw [hsz, ext_split B (show st ≤ p from by omega) (show p ≤ p + n + 3 from by omega), num_bytes hn hp, ext_split B (show p ≤ p + n from by omega) (show p + n ≤ p + n + 3 from by omega)]
  exact ByteArray.append_right_inj _

/-- spec.l6Read's answer. -/
noncomputable def frameS (B : ByteArray) (st : Nat) : ByteArray × Int :=
  match frameOf B st with
  | some (s, p) => (s, (p : Int))
  | none => (⟨#[]⟩, -1)
theorem frameS_none {B : ByteArray} {st : Nat} (h : frameOf B st = none) : frameS B st = (⟨#[]⟩, -1) := by unfold frameS; rw [h]
theorem frameS_some {B : ByteArray} {st p : Nat} {s : ByteArray} (h : frameOf B st = some (s, p)) : frameS B st = (s, (p : Int)) := by unfold frameS; rw [h]

set_option maxRecDepth 100000 in
set_option maxHeartbeats 1600000 in
/-- spec.l6Read -/
theorem l6Read_any (B : ByteArray) (st : Nat) (hst : st ≤ B.size) (hB : B.size ≤ 1048576) (w : World) :
    Calls Try.prog 139 #[.string B, .int .i64 (st : Int)] w fun e w' => e = .returned (.tuple #[.string (frameS B st).1, .int .i64 (frameS B st).2]) ∧ Below w.heap.size w w' := by
  have hB1 : (B.size : Int) ≤ 1048576 := by omega
  go_enter Try.func139, Try.ntmps139
  go_wp2_with fail
  refine (numS_any _ w.heap.size st B (src_new w B st _) hst hB).mono ?_
  rintro e w1 (⟨n, hn, rfl, hs, hg⟩ | ⟨hn, rfl, ⟨a, ha, hs⟩, hg⟩)
  · have hroom := num_room hst hn
    have hn1 := hn.1
    have Hn := Lib.hid hn
    clear hn
    obtain ⟨p, hp⟩ : ∃ p : Nat, st + (numL n).length = p := ⟨_, rfl⟩
    rw [hp] at hs hroom
    have hstp : st ≤ p := by omega
    have Hp := Lib.hid hp
    clear hp
    have hs' := hs
    obtain ⟨d0, d1, d2, g1, g2⟩ := hs'
    by_cases hbig : 700 < n
    · have hbig2 : (700 : Int) < (n : Int) := by omega
      have Hr := Lib.hid (frameS_none (frameOf_big Hn.out hbig))
      go_wp2
      go_ret2
      exact ⟨by rw [Hr.out]; rfl, grown_new hg⟩
    · have hbig2 : (n : Int) ≤ 700 := by omega
      by_cases hfit : p + n + 3 ≤ B.size
      · have hfit2 : (n : Int) + 3 ≤ (B.size : Int) - (p : Int) := by omega
        have hsz : (B.extract p (p + n)).size = n := by rw [ByteArray.size_extract]; omega
        have Hd := Lib.hid (l6Frame_any (B.extract p (p + n)) (by rw [hsz]; omega))
        have hgl := hs.lt
        by_cases heq : sealB (B.extract p (p + n)) = B.extract p (p + n) ++ B.extract (p + n) (p + n + 3)
        · have Hr := Lib.hid (frameS_some (frameOf_some Hn.out Hp.out (by omega) hfit heq))
          have h2 := (frame_iff Hn.out Hp.out hfit).2 heq
          rw [h2] at Hd
          clear heq h2
          go_wp2
          go_quiet (fail)
          go_wp2_with fail
          have hx2 := fun (u : World) (b o : Nat) (h : b < (w1.drewN nq).heap.size) => ext_cell (w1.drewN nq) u b o h
          refine wp_region_ext (by kernel_rfl) (by kernel_rfl) (w1.drewN nq).heap.size ?_
          repeat (any_goals (go_big_quiet_step ((go_at_call 85; exact calls_ext (by first | (simp; done) | omega | (simp; omega)) (Hd.out _)))))
          refine wpQuiet_nil ?_
          intro w2 hb2
          clear hx2
          go_wp2
          go_ret2
          exact ⟨by rw [Hr.out]; rfl, grown_new (grown_below (grown_drewN hg _) hb2)⟩
        · have Hr := Lib.hid (frameS_none (frameOf_bad Hn.out Hp.out heq))
          have hne := str_ne (fun h => heq ((frame_iff Hn.out Hp.out hfit).1 h))
          clear heq
          go_wp2
          go_quiet (fail)
          go_wp2_with fail
          have hx2 := fun (u : World) (b o : Nat) (h : b < (w1.drewN nq).heap.size) => ext_cell (w1.drewN nq) u b o h
          refine wp_region_ext (by kernel_rfl) (by kernel_rfl) (w1.drewN nq).heap.size ?_
          repeat (any_goals (go_big_quiet_step ((go_at_call 85; exact calls_ext (by first | (simp; done) | omega | (simp; omega)) (Hd.out _)))))
          refine wpQuiet_nil ?_
          intro w2 hb2
          clear hx2
          go_wp2
          go_ret2
          exact ⟨by rw [Hr.out]; rfl, grown_new (grown_below (grown_drewN hg _) hb2)⟩
      · have hfit2 : (B.size : Int) - (p : Int) < (n : Int) + 3 := by omega
        have Hr := Lib.hid (frameS_none (frameOf_short Hn.out (by rw [Hp.out]; omega)))
        go_wp2
        go_ret2
        exact ⟨by rw [Hr.out]; rfl, grown_new hg⟩
  · have Hr := Lib.hid (frameS_none (frameOf_none hn))
    clear hn
    have hs' := hs
    obtain ⟨d0, d1, d2, g1, g2⟩ := hs'
    go_wp2
    go_ret2
    exact ⟨by rw [Hr.out]; rfl, grown_new hg⟩

end Go.Proofs.Ytekgackednpdgaa
