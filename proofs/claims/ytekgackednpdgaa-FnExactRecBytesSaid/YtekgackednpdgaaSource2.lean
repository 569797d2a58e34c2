/- Reading a number. -/
import Derived.Test.YtekgackednpdgaaSource
import Derived.Deep.LoopGhost
namespace Go.Proofs.Ytekgackednpdgaa
open Go.RowKit

/-- What a reading of a number from the place st comes to. -/
def NumPost (B : ByteArray) (st g : Nat) (w : World) (e : Ending) (w' : World) : Prop :=
  (∃ n : Nat, IsNum (B.data.toList.drop st) n ∧ e = .returned (.int .i64 (n : Int)) ∧ SrcAt w' g B (st + (numL n).length) false ∧ w.grownBy w' (some g)) ∨
  ((∀ n, ¬ IsNum (B.data.toList.drop st) n) ∧ e = .returned (.int .i64 0) ∧ (∃ a, a ≤ B.size ∧ SrcAt w' g B a true) ∧ w.grownBy w' (some g))

/-- The same where it had failed before. -/
def BadPost (B : ByteArray) (g : Nat) (w : World) (e : Ending) (w' : World) : Prop :=
  e = .returned (.int .i64 0) ∧ (∃ a, a ≤ B.size ∧ SrcAt w' g B a true) ∧ w.grownBy w' (some g)

theorem extract_get (B : ByteArray) (a : Nat) (h : a < B.size) (h0 : 0 < (B.extract a (a + 1)).size) : (B.extract a (a + 1))[0] = B[a] := by simp [ByteArray.getElem_extract]

theorem drop_get (B : ByteArray) (st k : Nat) (h : st + k < B.size) : ∃ h2 : k < (B.data.toList.drop st).length, (B.data.toList.drop st)[k] = B[st + k] := by
  have hs : B.data.toList.length = B.size := by rw [Array.length_toList]; rfl
  refine ⟨by rw [List.length_drop]; omega, ?_⟩
  rw [List.getElem_drop, Array.getElem_toList]
  rfl

set_option maxRecDepth 100000 in
set_option maxHeartbeats 1600000 in
/-- impl.source.num -/
theorem num_any (w : World) (g st : Nat) (B : ByteArray) (h : SrcAt w g B st false) (hst : st ≤ B.size) (hB : B.size ≤ 1048576) :
    Calls Try.prog 181 #[.pointer (some ⟨g, 0, none⟩)] w (NumPost B st g w) := by
  obtain ⟨c0, c1, c2, f1, f2⟩ := h
  have H : SrcAt w g B st false := ⟨c0, c1, c2, f1, f2⟩
  have hB1 : (B.size : Int) ≤ 1048576 := by omega
  go_enter Try.func181, Try.ntmps181
  go_wp2
  go_loopg [4, 5, 6] 7 (fun gk n f _ wr => ∃ k m q : Nat, Hid (k + gk = 7) ∧ k ≤ 5 ∧ st + k ≤ B.size ∧ n = .int .i64 (m : Int) ∧ m ≤ 1000000000 ∧ f = .int .i64 (q : Int) ∧ q ≤ 34359738368 ∧ Hid (m = decL ((B.data.toList.drop st).take k)) ∧ Hid (q = 128 ^ k) ∧ Hid (∀ b ∈ (B.data.toList.drop st).take k, 128 ≤ b.toNat) ∧ SrcAt wr g B (st + k) false ∧ w.grownBy wr (some g))
  case atStart => exact ⟨0, 0, 1, rfl, by omega, by omega, rfl, by omega, rfl, by omega, rfl, rfl, Lib.hid (by simp), H, World.grownBy.refl _ _⟩
  case round =>
    obtain ⟨k, m, q, Hk, hk5, hsk, rfl, hm, rfl, hq, Hm, Hq, Hall, Hs, Hg⟩ := hrel
    by_cases hlt : st + k < B.size
    · obtain ⟨cn, hcn⟩ : ∃ cn : Nat, B[st + k].toNat = cn := ⟨_, rfl⟩
      have hc256 : (cn : Int) ≤ 255 := by have := B[st + k].toNat_lt; omega
      have hsz1 : (B.extract (st + k) (st + k + 1)).size = 1 := by rw [ByteArray.size_extract]; omega
      have hv : ((B.extract (st + k) (st + k + 1))[0]'(by rw [hsz1]; decide)).toNat = cn := by rw [← hcn, extract_get B (st + k) hlt]
      obtain ⟨xn, hxn⟩ : ∃ xn : Nat, cn % 128 * q = xn := ⟨_, rfl⟩
      have hx : ((cn : Int) % 128 * (q : Int)) = (xn : Int) := by rw [← hxn]; simp
      have hxb : xn ≤ 4363686772736 := by
        rw [← hxn]
        have h1 : cn % 128 ≤ 127 := by omega
        exact Nat.mul_le_mul h1 hq
      obtain ⟨hkl, hkg⟩ := drop_get B st k hlt
      have Hnext : Hid (m + xn = decL ((B.data.toList.drop st).take (k + 1))) := Lib.hid (by
        rw [List.take_succ_eq_append_getElem hkl, decL_append, ← Hm.out, hkg, List.length_take, Nat.min_eq_left (Nat.le_of_lt hkl), ← Hq.out, ← hxn, ← hcn]
        simp only [decL]
        rw [Nat.mul_zero, Nat.add_zero, Nat.mul_comm])
      have Hz : Hid (k < (B.data.toList.drop st).length ∧ ∀ h, ((B.data.toList.drop st)[k]'h).toNat = cn) := Lib.hid ⟨hkl, fun _ => by rw [hkg, hcn]⟩
      have Hcn := Lib.hid hcn
      have Hxn := Lib.hid hxn
      clear hcn hxn hkl hkg
      go_wp2_with fail
      refine (take_yes _ g (st + k) 1 B Hs (by omega) hB).mono ?_
      rintro e w1 ⟨rfl, hs1, hg1⟩
      have hs1' := hs1
      obtain ⟨d0, d1, d2, g1, g2⟩ := hs1'
      by_cases hbig : 1000000000 < m + xn
      · have hbig2 : (1000000000 : Int) < (m : Int) + (xn : Int) := by omega
        go_wp2_with fail
        refine (fail_any _ g (st + k + 1) B false hs1).mono ?_
        rintro e w2 ⟨rfl, hs2, hg2⟩
        go_wp2
        go_ret
        refine Or.inr ⟨fun n hn => ?_, rfl, ⟨st + k + 1, by omega, hs2⟩, grown_trans (grown_trans Hg hg1) hg2⟩
        have h1 := num_longer hn.2 Hall.out (Nat.le_of_lt Hz.out.1)
        have h2 := num_ge hn.2 (show k + 1 ≤ _ from h1)
        rw [← Hnext.out] at h2
        have := hn.1
        omega
      by_cases hk5' : k = 5
      · have hk6 : (5 : Int) ≤ (k : Int) := by omega
        have hk6' : k ≤ 5 := hk5
        clear hk5'
        go_wp2_with fail
        refine (fail_any _ g (st + k + 1) B false hs1).mono ?_
        rintro e w2 ⟨rfl, hs2, hg2⟩
        go_wp2
        go_ret
        refine Or.inr ⟨fun n hn => ?_, rfl, ⟨st + k + 1, by omega, hs2⟩, grown_trans (grown_trans Hg hg1) hg2⟩
        have h1 := num_longer hn.2 Hall.out (Nat.le_of_lt Hz.out.1)
        have := numL_five hn.1
        omega
      have hk4 : (k : Int) ≤ 4 := by omega
      have hmx : (m : Int) + (xn : Int) ≤ 1000000000 := by omega
      by_cases hlo : cn < 128
      · have hlo2 : (cn : Int) < 128 := by omega
        have Hc : Hid (∀ W, Calls Try.prog 143 #[.int .i64 ((m : Int) + (xn : Int))] W fun e w' => e = .returned (.string (numB (m + xn))) ∧ Below W.heap.size W w') :=
          Lib.hid fun W => by rw [← Int.natCast_add]; exact numBytes_b (m + xn) (by omega) W
        have hgl := hs1.lt
        have hlist : (B.extract st (st + k + 1)).data.toList = (B.data.toList.drop st).take (k + 1) := by
          rw [ByteArray.data_extract, Array.toList_extract, List.extract_eq_take_drop]
          congr 1
          omega
        by_cases heq : numB (m + xn) = B.extract st (st + k + 1)
        · have hnum : numL (m + xn) = (B.data.toList.drop st).take (k + 1) := by rw [← hlist, ← heq]; simp [numB]
          have Hfin : Hid (IsNum (B.data.toList.drop st) (m + xn) ∧ (numL (m + xn)).length = k + 1) := Lib.hid ⟨⟨by omega, by rw [hnum]; exact List.take_prefix _ _⟩, by rw [hnum, List.length_take]; have := Hz.out.1; omega⟩
          rw [heq] at Hc
          clear heq hlist hnum
          go_wp2_with fail
          have hx2 := fun (u : World) (b o : Nat) (h : b < w1.heap.size) => ext_cell w1 u b o h
          refine wp_region_ext (by kernel_rfl) (by kernel_rfl) w1.heap.size ?_
          repeat (any_goals (go_big_quiet_step ((go_at_call 143; exact calls_ext (by first | (simp; done) | omega | (simp; omega)) (Hc.out _)))))
          refine wpQuiet_nil ?_
          intro w2 hb2
          clear hx2
          go_wp2
          go_ret
          refine Or.inl ⟨m + xn, Hfin.out.1, by rw [Int.natCast_add]; rfl, ?_, grown_below (grown_trans Hg hg1) hb2⟩
          rw [Hfin.out.2]
          exact hs1.below hb2
        · have Hno : Hid (∀ n, ¬ IsNum (B.data.toList.drop st) n) := Lib.hid fun n hn => by
            have h1 := num_exact hn.2 Hall.out Hz.out.1 (by rw [Hz.out.2]; exact hlo)
            have h2 : n = m + xn := by rw [Hnext.out, ← h1, decL_numL]
            apply heq
            rw [← h2]
            have h3 : (numB n).data.toList = (B.extract st (st + k + 1)).data.toList := by rw [hlist, ← h1]; simp [numB]
            exact str_eq_iff.1 (by rw [ByteArray.toList_eq, ByteArray.toList_eq]; exact h3)
          have hne := str_ne heq
          clear heq hlist
          go_wp2_with fail
          have hx2 := fun (u : World) (b o : Nat) (h : b < w1.heap.size) => ext_cell w1 u b o h
          refine wp_region_ext (by kernel_rfl) (by kernel_rfl) w1.heap.size ?_
          repeat (any_goals (go_big_quiet_step ((go_at_call 143; exact calls_ext (by first | (simp; done) | omega | (simp; omega)) (Hc.out _)))))
          refine wpQuiet_nil ?_
          intro w2 hb2
          clear hx2
          go_wp2_with fail
          refine (fail_any _ g (st + k + 1) B false (hs1.below hb2)).mono ?_
          rintro e w3 ⟨rfl, hs3, hg3⟩
          go_wp2
          go_ret
          exact Or.inr ⟨Hno.out, rfl, ⟨st + k + 1, by omega, hs3⟩, grown_trans (grown_below (grown_trans Hg hg1) hb2) hg3⟩
      · have hhi : (128 : Int) ≤ (cn : Int) := by omega
        go_wp2_with fail
        go_roundg (gk - 1)
        case measure => have := Hk.out; omega
        case rel =>
          refine ⟨k + 1, m + xn, q * 128, Lib.hid (by have := Hk.out; omega), by omega, by omega, by go_num, by omega, by go_num, ?_, Hnext, Lib.hid (by rw [Hq.out, Nat.pow_succ]), Lib.hid ?_, hs1, grown_trans Hg hg1⟩
          · have : q ≤ 268435456 := by
              have h1 : q = 128 ^ k := Hq.out
              have h2 : 128 ^ k ≤ 128 ^ 4 := Nat.pow_le_pow_right (by decide) (by omega)
              have h3 : 128 ^ 4 = 268435456 := by decide
              omega
            omega
          · intro b hb
            rw [List.take_succ_eq_append_getElem Hz.out.1, List.mem_append, List.mem_singleton] at hb
            rcases hb with hb | rfl
            · exact Hall.out b hb
            · rw [Hz.out.2]; omega
    · have hnl : ∀ n, ¬ IsNum (B.data.toList.drop st) n := fun n hn => by
        have hl : (B.data.toList.drop st).length = B.size - st := by rw [List.length_drop, Array.length_toList]; rfl
        have h1 := num_longer hn.2 Hall.out (by omega)
        have h2 := List.IsPrefix.length_le hn.2
        omega
      have Hnl := Lib.hid hnl
      clear hnl
      go_wp2_with fail
      refine (take_no _ g (st + k) 1 B false Hs (Or.inr ⟨hsk, by omega⟩) hB (by omega)).mono ?_
      rintro e w1 ⟨rfl, hs1, hg1⟩
      have hs1' := hs1
      obtain ⟨d0, d1, d2, g1, g2⟩ := hs1'
      go_wp2
      go_ret
      exact Or.inr ⟨Hnl.out, rfl, ⟨st + k, hsk, hs1⟩, grown_trans Hg hg1⟩

end Go.Proofs.Ytekgackednpdgaa
