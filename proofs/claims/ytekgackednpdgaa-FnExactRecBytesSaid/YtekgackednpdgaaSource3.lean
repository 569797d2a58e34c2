/- Reading a number, the reference's reader. -/
import Derived.Test.YtekgackednpdgaaSource2
namespace Go.Proofs.Ytekgackednpdgaa
open Go.RowKit

set_option maxRecDepth 100000 in
set_option maxHeartbeats 3200000 in
/-- spec.l1R.num -/
theorem numS_any (w : World) (g st : Nat) (B : ByteArray) (h : SrcAt w g B st false) (hst : st ≤ B.size) (hB : B.size ≤ 1048576) :
    Calls Try.prog 178 #[.pointer (some ⟨g, 0, none⟩)] w (NumPost B st g w) := by
  obtain ⟨c0, c1, c2, f1, f2⟩ := h
  have H : SrcAt w g B st false := ⟨c0, c1, c2, f1, f2⟩
  have hB1 : (B.size : Int) ≤ 1048576 := by omega
  go_enter Try.func178, Try.ntmps178
  go_wp2
  go_loopw [4, 5, 6, 7] (fun n f j _ wr => ∃ k m q : Nat, j = .int .i64 (k : Int) ∧ k ≤ 5 ∧ st + k ≤ B.size ∧ n = .int .i64 (m : Int) ∧ m ≤ 34359738368 ∧ f = .int .i64 (q : Int) ∧ q ≤ 34359738368 ∧ Hid (m = decL ((B.data.toList.drop st).take k)) ∧ Hid (q = 128 ^ k) ∧ Hid (∀ b ∈ (B.data.toList.drop st).take k, 128 ≤ b.toNat) ∧ SrcAt wr g B (st + k) false ∧ w.grownBy wr (some g)) (fun _ _ j _ _ => 5 - (intOf j).toNat)
  case atStart => exact ⟨0, 0, 1, rfl, by omega, by omega, rfl, by omega, rfl, by omega, rfl, rfl, Lib.hid (by simp), H, World.grownBy.refl _ _⟩
  case round =>
    obtain ⟨k, m, q, rfl, hk5, hsk, rfl, hm, rfl, hq, Hm, Hq, Hall, Hs, Hg⟩ := hrel
    have hll : (B.data.toList.drop st).length = B.size - st := by rw [List.length_drop, Array.length_toList]; rfl
    by_cases hk : k < 5
    · by_cases hlt : st + k < B.size
      · obtain ⟨cn, hcn⟩ : ∃ cn : Nat, B[st + k].toNat = cn := ⟨_, rfl⟩
        have hc256 : (cn : Int) ≤ 255 := by have := B[st + k].toNat_lt; omega
        obtain ⟨xn, hxn⟩ : ∃ xn : Nat, cn % 128 * q = xn := ⟨_, rfl⟩
        have hx : ((cn : Int) % 128 * (q : Int)) = (xn : Int) := by rw [← hxn]; simp
        have hxb : xn ≤ 4363686772736 := by
          rw [← hxn]
          have h1 : cn % 128 ≤ 127 := by omega
          exact Nat.mul_le_mul h1 hq
        obtain ⟨hkl, hkg⟩ := drop_get B st k hlt
        have Hnext : Hid (m + xn = decL ((B.data.toList.drop st).take (k + 1))) := Lib.hid (by
          rw [List.take_succ_eq_append_getElem hkl, decL_append, ← Hm.out, hkg, List.length_take, Nat.min_eq_left (Nat.le_of_lt hkl), ← Hq.out, ← hxn, ← hcn]
          simp only [decL]
          rw [Nat.mul_zero, Nat.add_zero, Nat.mul_comm])
        have hmx : m + xn ≤ 34359738368 := by
          rw [Hnext.out]
          have h1 := decL_lt ((B.data.toList.drop st).take (k + 1))
          rw [List.length_take, Nat.min_eq_left hkl] at h1
          have h2 : 128 ^ (k + 1) ≤ 128 ^ 5 := Nat.pow_le_pow_right (by decide) (by omega)
          have h3 : 128 ^ 5 = 34359738368 := by decide
          omega
        have Hz : Hid (k < (B.data.toList.drop st).length ∧ ∀ h, ((B.data.toList.drop st)[k]'h).toNat = cn) := Lib.hid ⟨hkl, fun _ => by rw [hkg, hcn]⟩
        have Hone := Lib.hid (fun W (hW : SrcAt W g B (st + k) false) => by have := one_yes W g (st + k) B hW hlt hB; rw [hcn] at this; exact this)
        have Hxn := Lib.hid hxn
        have hcn' := Lib.hid hcn
        clear hcn hxn hkl hkg hll
        go_wp2_with fail
        refine (Hone.out _ Hs).mono ?_
        rintro e w1 ⟨rfl, hs1, hg1⟩
        have hs1' := hs1
        obtain ⟨d0, d1, d2, g1, g2⟩ := hs1'
        have hgl := hs1.lt
        by_cases hlo : cn < 128
        · have hlo2 : (cn : Int) < 128 := by omega
          have Hsmall : Hid (∀ n, IsNum (B.data.toList.drop st) n → numL n = (B.data.toList.drop st).take (k + 1) ∧ n = m + xn) := Lib.hid fun n hn => by
            have h1 := num_exact hn.2 Hall.out Hz.out.1 (by rw [Hz.out.2]; exact hlo)
            exact ⟨h1, by rw [Hnext.out, ← h1, decL_numL]⟩
          by_cases hbig : 1000000000 < m + xn
          · have hbig2 : (1000000000 : Int) < (m : Int) + (xn : Int) := by omega
            have Hno : Hid (∀ n, ¬ IsNum (B.data.toList.drop st) n) := Lib.hid fun n hn => by
              have h2 := (Hsmall.out n hn).2
              have := hn.1
              omega
            go_wp2_with fail
            have hx2 := fun (u : World) (b o : Nat) (h : b < w1.heap.size) => ext_cell w1 u b o h
            refine wp_region_ext (by kernel_rfl) (by kernel_rfl) w1.heap.size ?_
            repeat (any_goals (go_big_quiet_step (fail)))
            refine wpQuiet_nil ?_
            intro w2 hb2
            clear hx2
            have hs2 := (hs1).below hb2
            have hs2' := hs2
            obtain ⟨e0, e1, e2, k1, k2⟩ := hs2'
            go_wp2
            go_ret
            exact Or.inr ⟨Hno.out, rfl, ⟨st + k + 1, by omega, hs2.setBad true⟩, grown_set (grown_below (grown_trans Hg hg1) hb2) _ _⟩
          · have hbig2 : (m : Int) + (xn : Int) ≤ 1000000000 := by omega
            have hbd : decide ((1000000000 : Int) < (m : Int) + (xn : Int)) = false := by simp; omega
            have Hc : Hid (∀ W, Calls Try.prog 140 #[.int .i64 ((m : Int) + (xn : Int))] W fun e w' => e = .returned (.string (numB (m + xn))) ∧ Below W.heap.size W w') :=
              Lib.hid fun W => by rw [← Int.natCast_add]; exact l1NumB_b (m + xn) (by omega) W
            have hlist : (B.extract st (st + k + 1)).data.toList = (B.data.toList.drop st).take (k + 1) := by
              rw [ByteArray.data_extract, Array.toList_extract, List.extract_eq_take_drop]
              congr 1
              omega
            by_cases heq : numB (m + xn) = B.extract st (st + k + 1)
            · have hnum : numL (m + xn) = (B.data.toList.drop st).take (k + 1) := by rw [← hlist, ← heq]; simp [numB]
              have Hfin : Hid (IsNum (B.data.toList.drop st) (m + xn) ∧ (numL (m + xn)).length = k + 1) := Lib.hid ⟨⟨by omega, by rw [hnum]; exact List.take_prefix _ _⟩, by rw [hnum, List.length_take]; have := Hz.out.1; omega⟩
              rw [heq] at Hc
              clear heq hlist hnum
              go_wp2_with fail
              have hx2 := fun (u : World) (b o : Nat) (h : b < w1.heap.size) => ext_cell w1 u b o h
              refine wp_region_ext (by kernel_rfl) (by kernel_rfl) w1.heap.size ?_
              repeat (any_goals (go_big_quiet_step ((go_at_call 140; exact calls_ext (by first | (simp; done) | omega | (simp; omega)) (Hc.out _)))))
              refine wpQuiet_nil ?_
              intro w2 hb2
              clear hx2
              go_wp2
              go_ret
              refine Or.inl ⟨m + xn, Hfin.out.1, by rw [Int.natCast_add]; rfl, ?_, grown_below (grown_trans Hg hg1) hb2⟩
              rw [Hfin.out.2]
              exact hs1.below hb2
            · have Hno : Hid (∀ n, ¬ IsNum (B.data.toList.drop st) n) := Lib.hid fun n hn => by
                obtain ⟨h1, h2⟩ := Hsmall.out n hn
                apply heq
                rw [← h2]
                have h3 : (numB n).data.toList = (B.extract st (st + k + 1)).data.toList := by rw [hlist, ← h1]; simp [numB]
                exact str_eq_iff.1 (by rw [ByteArray.toList_eq, ByteArray.toList_eq]; exact h3)
              have hne := str_ne heq
              clear heq hlist
              go_wp2_with fail
              have hx2 := fun (u : World) (b o : Nat) (h : b < w1.heap.size) => ext_cell w1 u b o h
              refine wp_region_ext (by kernel_rfl) (by kernel_rfl) w1.heap.size ?_
              repeat (any_goals (go_big_quiet_step ((go_at_call 140; exact calls_ext (by first | (simp; done) | omega | (simp; omega)) (Hc.out _)))))
              refine wpQuiet_nil ?_
              intro w2 hb2
              clear hx2
              have hs2 := (hs1).below hb2
              have hs2' := hs2
              obtain ⟨e0, e1, e2, k1, k2⟩ := hs2'
              go_wp2
              go_ret
              exact Or.inr ⟨Hno.out, rfl, ⟨st + k + 1, by omega, hs2.setBad true⟩, grown_set (grown_below (grown_trans Hg hg1) hb2) _ _⟩
        · have hhi : (128 : Int) ≤ (cn : Int) := by omega
          have hq4 : (q : Int) ≤ 268435456 := by
            have h1 : q = 128 ^ k := Hq.out
            have h2 : 128 ^ k ≤ 128 ^ 4 := Nat.pow_le_pow_right (by decide) (by omega)
            have h3 : 128 ^ 4 = 268435456 := by decide
            omega
          go_wp2_with fail
          go_roundw
          case rel =>
            refine ⟨k + 1, m + xn, q * 128, by go_num, by omega, by omega, by go_num, by omega, by go_num, by omega, Hnext, Lib.hid (by rw [Hq.out, Nat.pow_succ]), Lib.hid ?_, hs1, grown_trans Hg hg1⟩
            intro b hb
            rw [List.take_succ_eq_append_getElem Hz.out.1, List.mem_append, List.mem_singleton] at hb
            rcases hb with hb | rfl
            · exact Hall.out b hb
            · rw [Hz.out.2]; omega
          case measure => simp [intOf]; omega
      · have Hno : Hid (∀ n, ¬ IsNum (B.data.toList.drop st) n) := Lib.hid fun n hn => by
          have h1 := num_longer hn.2 Hall.out (by omega)
          have h2 := List.IsPrefix.length_le hn.2
          omega
        have hq2 : (q : Int) ≤ 34359738368 := by omega
        clear hll
        go_wp2_with fail
        refine (one_no _ g (st + k) B false Hs (Or.inr (by omega)) hB (by omega)).mono ?_
        rintro e w1 ⟨rfl, hs1, hg1⟩
        have hs1' := hs1
        obtain ⟨d0, d1, d2, g1, g2⟩ := hs1'
        have hgl := hs1.lt
        go_wp2_with fail
        have hx2 := fun (u : World) (b o : Nat) (h : b < w1.heap.size) => ext_cell w1 u b o h
        refine wp_region_ext (by kernel_rfl) (by kernel_rfl) w1.heap.size ?_
        repeat (any_goals (go_big_quiet_step (fail)))
        refine wpQuiet_nil ?_
        intro w2 hb2
        clear hx2
        have hs2 := (hs1).below hb2
        have hs2' := hs2
        obtain ⟨e0, e1, e2, k1, k2⟩ := hs2'
        go_wp2
        go_ret
        exact Or.inr ⟨Hno.out, rfl, ⟨st + k, by omega, hs2.setBad true⟩, grown_set (grown_below (grown_trans Hg hg1) hb2) _ _⟩
    · have hk5' : k = 5 := by omega
      subst hk5'
      have Hno : Hid (∀ n, ¬ IsNum (B.data.toList.drop st) n) := Lib.hid fun n hn => by
        have h1 := num_longer hn.2 Hall.out (by omega)
        have := numL_five hn.1
        omega
      have hs1' := Hs
      obtain ⟨d0, d1, d2, g1, g2⟩ := hs1'
      have hgl := Hs.lt
      by_cases hbig : 1000000000 < m
      · have hbig2 : (1000000000 : Int) < (m : Int) := by omega
        clear hll
        go_wp2_with fail
        have hx2 := fun (u : World) (b o : Nat) (h : b < wr.heap.size) => ext_cell wr u b o h
        refine wp_region_ext (by kernel_rfl) (by kernel_rfl) wr.heap.size ?_
        repeat (any_goals (go_big_quiet_step (fail)))
        refine wpQuiet_nil ?_
        intro w2 hb2
        clear hx2
        have hs2 := (Hs).below hb2
        have hs2' := hs2
        obtain ⟨e0, e1, e2, k1, k2⟩ := hs2'
        go_wp2
        go_ret
        exact Or.inr ⟨Hno.out, rfl, ⟨st + 5, by omega, hs2.setBad true⟩, grown_set (grown_below (Hg) hb2) _ _⟩
      · have hbig2 : (m : Int) ≤ 1000000000 := by omega
        have hbd : decide ((1000000000 : Int) < (m : Int)) = false := by simp; omega
        have Hc := Lib.hid (l1NumB_b m (by omega))
        have heq : numB m ≠ B.extract st (st + 5) := fun he => by
          refine Hno.out m ⟨by omega, ?_⟩
          have hlist : (B.extract st (st + 5)).data.toList = (B.data.toList.drop st).take 5 := by
            rw [ByteArray.data_extract, Array.toList_extract, List.extract_eq_take_drop]
            congr 1
            omega
          have hnum : numL m = (B.data.toList.drop st).take 5 := by rw [← hlist, ← he]; simp [numB]
          rw [hnum]
          exact List.take_prefix _ _
        have hne := str_ne heq
        clear heq hll
        go_wp2_with fail
        have hx2 := fun (u : World) (b o : Nat) (h : b < wr.heap.size) => ext_cell wr u b o h
        refine wp_region_ext (by kernel_rfl) (by kernel_rfl) wr.heap.size ?_
        repeat (any_goals (go_big_quiet_step ((go_at_call 140; exact calls_ext (by first | (simp; done) | omega | (simp; omega)) (Hc.out _)))))
        refine wpQuiet_nil ?_
        intro w2 hb2
        clear hx2
        have hs2 := (Hs).below hb2
        have hs2' := hs2
        obtain ⟨e0, e1, e2, k1, k2⟩ := hs2'
        go_wp2
        go_ret
        exact Or.inr ⟨Hno.out, rfl, ⟨st + 5, by omega, hs2.setBad true⟩, grown_set (grown_below (Hg) hb2) _ _⟩

end Go.Proofs.Ytekgackednpdgaa
