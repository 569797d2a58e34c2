/- laws.markCellS, laws.heldCellS. Printed by mkmark.py. -/
import Derived.Test.YtkcidneefdaaiaaPlanT
import Derived.Test.YtkcidneefdaaiaaMarkVer
namespace Go.Proofs.Ytkcidneefdaaiaa
open Go.RowKit

set_option maxRecDepth 100000 in
set_option maxHeartbeats 1600000 in
/-- laws.markCellS -/
theorem markCellS_p (k0 : Nat) (h0 : 0 < k0) (v : Value) (fp : List Nat) (w : World) (h : PT.okS PT.tcell w v fp) (hm : Mine w 0 fp) (hL : k0 + (PT.planS PT.tcell w v).length ≤ 1073741824) :
    Calls Try.prog 17 #[v, .int .i64 (k0 : Int)] w fun e w' => e = .returned (.int .i64 ((k0 + (PT.planS PT.tcell w v).length : Nat) : Int)) ∧ Stored w w' (PT.planS PT.tcell w v) k0 := by
  obtain ⟨a, n, cap, rfl, hnc, hcm, r⟩ := PT.okS_form h hm
  have R := Lib.hid r
  have HL := Lib.hid hL
  clear r hL h hm
  have hnI : (n : Int) ≤ 9223372036854775807 := by unfold maxLen at hcm; omega
  clear hnc hcm
  go_enter Try.func17, Try.ntmps17
  go_wp2
  go_loopw [1, 5] (fun kk i wr => ∃ j K : Nat, i = .int .i64 (j : Int) ∧ kk = .int .i64 (K : Int) ∧ Hid (K = k0 + (PT.planS PT.tcell w (.slice a j cap)).length) ∧ j ≤ n ∧ Hid (Stored w wr (PT.planS PT.tcell w (.slice a j cap)) k0)) (fun _ i _ => n - (intOf i).toNat)
  case atStart => exact ⟨0, k0, rfl, rfl, Lib.hid (by rw [PT.planS_zero]; rfl), Nat.zero_le _, Lib.hid (by rw [PT.planS_zero]; exact stored_refl _ _)⟩
  case round =>
    obtain ⟨j, K, rfl, rfl, HK, hj, HS⟩ := hrel
    by_cases hlt : j < n
    · have hlt2 : (j : Int) < (n : Int) := by omega
      obtain ⟨b, o, f, rfl, hb, hok, hmf⟩ := R.out (by omega)
      obtain ⟨g, ok, mine, hpl⟩ := round_open hok hb hmf hlt HS.out
      have hrl := PT.rows_len_le PT.tcell w b o hlt
      obtain ⟨f0, f0r, rfl, ⟨⟨uv0, d0⟩, rfl⟩, ⟨uv1, d1, r1⟩⟩ := ok
      replace d0 : wr.cell? ⟨b, o + j * 2, none⟩ = some uv0 := d0
      replace d1 : wr.cell? ⟨b, o + j * 2 + 1, none⟩ = some uv1 := d1
      try simp only [List.nil_append, List.append_nil] at mine
      obtain ⟨m1, nb1⟩ := mine.part
      obtain ⟨L1, hL1⟩ : ∃ L, (PT.planS PT.tver wr uv1).length = L := ⟨_, rfl⟩
      have hap1 := PT.arr_plan (p := PT.tver) d1
      have hQ : ([] : List (Addr × MK)) ++ [(⟨b, o + j * 2, none⟩, MK.str)] ++ PT.planS PT.tver wr uv1 = PT.tcell.plan w b (o + j * PT.tcell.size) := by
        rw [← hpl]
        show _ = [(⟨b, o + j * 2, none⟩, MK.str)] ++ ((PT.arr PT.tver).plan wr b (o + j * 2 + 1))
        rw [hap1]
        simp only [List.nil_append, List.append_assoc, List.cons_append]
      have hql : (PT.tcell.plan w b (o + j * PT.tcell.size)).length = 1 + L1 := by rw [← hQ]; simp only [List.length_append, List.length_cons, List.length_nil, hL1] <;> omega
      have HR : Hid (∀ K2 w2, Stored wr w2 (([] : List (Addr × MK)) ++ [(⟨b, o + j * 2, none⟩, MK.str)] ++ PT.planS PT.tver wr uv1) K → K2 = K + (1 + L1) → K2 = k0 + (PT.planS PT.tcell w (.slice (some ⟨b, o, none⟩) (j + 1) cap)).length ∧ Stored w w2 (PT.planS PT.tcell w (.slice (some ⟨b, o, none⟩) (j + 1) cap)) k0) := Lib.hid fun K2 w2 hs hk => by
        have hKK := HK.out
        replace hKK : K = k0 + ((PT.rows PT.tcell j).plan w b o).length := hKK
        refine ⟨?_, round_close hok hmf hlt HS.out (hKK ▸ hs) hQ⟩
        show K2 = k0 + ((PT.rows PT.tcell (j + 1)).plan w b o).length
        rw [PT.rows_snoc, List.length_append, hql]; omega
      have hKb : (K : Int) + ((1 + L1 : Nat) : Int) ≤ 1073741824 := by
        have h1 := HK.out; replace h1 : K = k0 + ((PT.rows PT.tcell j).plan w b o).length := h1
        have h2 := HL.out; replace h2 : k0 + ((PT.rows PT.tcell n).plan w b o).length ≤ 1073741824 := h2
        omega
      have hK0 : 0 < K := by have := HK.out; omega
      have hK0I : (0 : Int) ≤ (K : Int) := by omega
      have fr := mine.free b List.mem_cons_self
      have z0 := fr (o + j * 2)
      have HF := Lib.hid fr
      have HO1 := Lib.hid r1
      have HM1 := Lib.hid m1
      have HLL1 := Lib.hid hL1
      clear hql hQ hpl hrl hok hmf fr mine r1 m1 hap1 hL1
      have S0 := Lib.hid (stored_refl wr K)
      have D0 := Lib.hid d0
      have D1 := Lib.hid d1
      have C0 : Hid (∀ W, Calls Try.prog 28 #[.int .i64 ((K : Int))] W fun e w' => e = .returned (.string (markB K)) ∧ Below W.heap.size W w') :=
        Lib.hid fun W => by rw [show ((K : Int)) = ((K : Nat) : Int) from by omega]; exact markText_any K (by omega) (by omega) W
      go_wp2_with fail
      refine (C0.out _).mono ?_
      rintro e w1 ⟨rfl, k1⟩
      have T0 := Lib.hid (S0.out.trans (stored_below _ k1) (fun _ _ h => by cases h))
      rw [List.append_nil] at T0
      clear d0 d1
      clear z0
      have d0 := T0.out.at D0.out (notIn_nil _)
      have z0 := T0.out.fro D0.out (HF.out _)
      have d1 := T0.out.at D1.out (notIn_nil _)
      have S1 : Hid (Stored wr (w1.setCell ⟨b, o + j * 2, none⟩ (.string (markB K))) (([] : List (Addr × MK)) ++ [(⟨b, o + j * 2, none⟩, MK.str)]) K) := Lib.hid (Stored.put (n := K) .str S0.out k1 D0.out (notIn_nil _) (by simp only [List.length_append, List.length_cons, List.length_nil] <;> (omega)))
      clear k1
      obtain ⟨so1, sp1, sm1⟩ := S1.out.sub HO1.out HM1.out (farAll_snoc (farAll_nil f0r) nb1)
      have C1 := Lib.hid (markVerS_p (K + 1) (by omega) uv1 _ _ so1 sm1 (by rw [sp1, HLL1.out] <;> (omega)))
      rw [sp1, HLL1.out] at C1
      clear so1 sp1 sm1
      obtain ⟨K1, hK1⟩ : ∃ K1 : Nat, (K + 1) + L1 = K1 := ⟨_, rfl⟩
      rw [hK1] at C1
      rw [show (((K + 1) : Nat) : Int) = (K : Int) + 1 from by omega] at C1
      have HK1 := Lib.hid hK1
      have hk1b : (K1 : Int) = (K : Int) + 1 + (L1 : Int) := by omega
      have hk1n : (0 : Int) ≤ (K1 : Int) := by omega
      have hk1l : (K1 : Int) ≤ 1073741824 := by omega
      have HB1 := Lib.hid hk1b
      clear hK1 hk1b
      go_wp2_with fail
      refine C1.out.mono ?_
      rintro e w2 ⟨rfl, t1⟩
      have S2 : Hid (Stored wr w2 (([] : List (Addr × MK)) ++ [(⟨b, o + j * 2, none⟩, MK.str)] ++ PT.planS PT.tver wr uv1) K) := Lib.hid (S1.out.call t1 (by simp only [List.length_append, List.length_cons, List.length_nil] <;> (omega)) (PT.planS_in HO1.out) (farAll_snoc (farAll_nil f0r) nb1))
      clear t1 d0 d1
      clear z0
      obtain ⟨hE1, hE2⟩ := HR.out K1 _ S2.out (by have := HK1.out; omega)
      have HE1 := Lib.hid hE1
      have HE2 := Lib.hid hE2
      clear hE1 hE2
      go_wp2
      go_roundw
      case rel => exact ⟨j + 1, K1, by go_num, by go_num, HE1, by omega, HE2⟩
      case measure => simp [intOf]; omega
    · have hlt2 : (n : Int) ≤ (j : Int) := by omega
      obtain rfl : j = n := by omega
      go_wp2
      go_ret
      exact ⟨ret_int (by rw [HK.out]), HS.out⟩

set_option maxRecDepth 100000 in
set_option maxHeartbeats 1600000 in
/-- laws.heldCellS -/
theorem heldCellS_p (k0 : Nat) (h0 : 0 < k0) (v : Value) (L0 : Nat) (w : World) (h : HeldS PT.tcell w v k0 L0) (hL : k0 + L0 ≤ 1073741824) :
    Calls Try.prog 18 #[v, .int .i64 (k0 : Int)] w fun e w' => e = .returned (.int .i64 ((k0 + L0 : Nat) : Int)) ∧ Below w.heap.size w w' := by
  obtain ⟨a, n, cap, rfl, hnc, hcm, hz, r⟩ := h.form
  have R := Lib.hid r
  have HL := Lib.hid hL
  have HZ := Lib.hid hz
  clear r hL h hz
  have hnI : (n : Int) ≤ 9223372036854775807 := by unfold maxLen at hcm; omega
  clear hnc hcm
  go_enter Try.func18, Try.ntmps18
  go_wp2
  go_loopw [1, 5] (fun kk i wr => ∃ j K : Nat, i = .int .i64 (j : Int) ∧ kk = .int .i64 (K : Int) ∧ Hid (K = k0 + (PT.planS PT.tcell w (.slice a j cap)).length) ∧ j ≤ n ∧ Below w.heap.size w wr) (fun _ i _ => n - (intOf i).toNat)
  case atStart => exact ⟨0, k0, rfl, rfl, Lib.hid (by rw [PT.planS_zero]; rfl), Nat.zero_le _, Below.refl _ _⟩
  case round =>
    obtain ⟨j, K, rfl, rfl, HK, hj, hb⟩ := hrel
    by_cases hlt : j < n
    · have hlt2 : (j : Int) < (n : Int) := by omega
      obtain ⟨b, o, rfl, hbw, hLe, hc⟩ := R.out (by omega)
      have hKK := HK.out
      replace hKK : K = k0 + ((PT.rows PT.tcell j).plan w b o).length := hKK
      have hrl := PT.rows_len_le PT.tcell w b o hlt
      have hA := hc j hlt
      rw [← hKK] at hA
      obtain ⟨Lj, hLj⟩ : ∃ Lj, (PT.tcell.plan w b (o + j * PT.tcell.size)).length = Lj := ⟨_, rfl⟩
      rw [hLj] at hA hrl
      have HN : Hid (∀ K2, K2 = K + Lj → K2 = k0 + (PT.planS PT.tcell w (.slice (some ⟨b, o, none⟩) (j + 1) cap)).length) := Lib.hid fun K2 hk => by
        show K2 = k0 + ((PT.rows PT.tcell (j + 1)).plan w b o).length
        rw [PT.rows_snoc, List.length_append, hLj]; omega
      have hKj : K + Lj ≤ 1073741824 := by have := HL.out; omega
      obtain ⟨g, ok, hnd, hbl, hmk, hlen⟩ := hA.below hb
      clear hA hc hLe hrl hLj hKK
      obtain ⟨f0, f0r, rfl, ⟨⟨uv0, d0⟩, rfl⟩, ⟨uv1, d1, r1⟩⟩ := ok
      replace d0 : wr.cell? ⟨b, o + j * 2, none⟩ = some uv0 := d0
      replace d1 : wr.cell? ⟨b, o + j * 2 + 1, none⟩ = some uv1 := d1
      have hap1 := PT.arr_plan (p := PT.tver) d1
      obtain ⟨L1, hL1⟩ : ∃ L, (PT.planS PT.tver wr uv1).length = L := ⟨_, rfl⟩
      have hn1 : f0r.Nodup := (List.nodup_cons.1 hnd).2.sublist (by simp)
      replace hmk : Marked wr ([(⟨b, o + j * 2, none⟩, MK.str)] ++ ((PT.arr PT.tver).plan wr b (o + j * 2 + 1)) : List (Addr × MK)) K := hmk
      replace hlen : ([(⟨b, o + j * 2, none⟩, MK.str)] ++ ((PT.arr PT.tver).plan wr b (o + j * 2 + 1)) : List (Addr × MK)).length = Lj := hlen
      rw [hap1] at hmk hlen
      simp only [List.length_append, List.length_cons, List.length_nil, hL1] at hlen
      have e0 : wr.cell? ⟨b, o + j * 2, none⟩ = some (.string (markB K)) := (hmk.left).one
      have q0 : Marked wr _ (K + 1) := hmk.right
      have g1 : HeldS PT.tver wr uv1 (K + 1) L1 := ⟨_, r1, hn1, q0, hL1⟩
      obtain ⟨K1, hK1⟩ : ∃ K1 : Nat, (K + 1) + L1 = K1 := ⟨_, rfl⟩
      have hk1n : (0 : Int) ≤ (K1 : Int) := by omega
      have hk1l : (K1 : Int) ≤ 1073741824 := by omega
      have HB1 : Hid ((K1 : Int) = (K : Int) + 1 + (L1 : Int)) := Lib.hid (by omega)
      have hk1p : (0 : Int) < (K1 : Int) := by omega
      have hKt : K + 1 ≤ 1073741824 := by omega
      have hK0 : 0 < K := by have := HK.out; omega
      have hK0I : (0 : Int) ≤ (K : Int) := by omega
      have hgl : b < wr.heap.size := hbl
      have HT : Hid (K1 = K + Lj) := Lib.hid (by omega)
      have C0 : Hid (∀ W, Calls Try.prog 28 #[.int .i64 ((K : Int))] W fun e w' => e = .returned (.string (markB K)) ∧ Below W.heap.size W w') :=
        Lib.hid fun W => by rw [show ((K : Int)) = ((K : Nat) : Int) from by omega]; exact markText_any K (by omega) (by omega) W
      have C1 : Hid (∀ W, HeldS PT.tver W uv1 (K + 1) L1 → Calls Try.prog 39 #[uv1, .int .i64 ((K : Int) + 1)] W fun e w' => e = .returned (.int .i64 (K1 : Int)) ∧ Below W.heap.size W w') :=
        Lib.hid fun W hW => by rw [show ((K : Int) + 1) = (((K + 1) : Nat) : Int) from by omega, ← hK1]; exact heldVerS_p (K + 1) (by omega) uv1 L1 W hW (by omega)
      clear hmk hlen hnd q0 hap1 hL1 hn1 r1 hK1 d0
      generalize markB K = s0 at *
      have G1 := Lib.hid g1
      clear g1
      go_wp2_with fail
      have hx2 := fun (u : World) (b o : Nat) (h : b < wr.heap.size) => ext_cell wr u b o h
      refine wp_region_ext (by kernel_rfl) (by kernel_rfl) wr.heap.size ?_
      repeat (any_goals (go_big_quiet_step ((go_at_call 28; exact calls_ext (by first | (simp; done) | omega | (simp; omega)) (C0.out _)))))
      refine wpQuiet_nil ?_
      intro w1 k1
      clear hx2
      replace d1 := cell_step k1 d1
      replace G1 := Lib.hid (G1.out.below k1)
      clear e0
      replace hgl : b < w1.heap.size := by have := k1.size; omega
      replace hb : Below w.heap.size w w1 := below_after k1 hb
      clear k1
      go_wp2_with fail
      refine (C1.out _ G1.out).mono ?_
      rintro e w2 ⟨rfl, k2⟩
      clear d1
      replace hgl : b < w2.heap.size := by have := k2.size; omega
      replace hb : Below w.heap.size w w2 := below_after k2 hb
      clear k2
      go_wp2
      go_roundw
      case rel => exact ⟨j + 1, K1, by go_num, by go_num, Lib.hid (HN.out _ HT.out), by omega, hb⟩
      case measure => simp [intOf]; omega
    · have hlt2 : (n : Int) ≤ (j : Int) := by omega
      obtain rfl : j = n := by omega
      go_wp2
      go_ret
      refine ⟨ret_int ?_, hb⟩
      rw [HK.out]
      by_cases hj0 : j = 0
      · subst hj0
        rw [PT.planS_zero, HZ.out rfl]; rfl
      · obtain ⟨b, o, rfl, _, hLe, _⟩ := R.out (by omega)
        rw [hLe]; rfl

end Go.Proofs.Ytkcidneefdaaiaa
