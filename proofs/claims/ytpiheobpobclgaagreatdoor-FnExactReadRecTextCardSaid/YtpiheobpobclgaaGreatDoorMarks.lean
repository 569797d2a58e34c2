/- Plain lemmas and contracts that all proofs of this seat lean on: bundle Marks. -/
import Derived.Test.YtpiheobpobclgaaGreatDoorPlanT
/- laws.markStringS, laws.heldStringS. Printed by mkmark.py. -/
namespace Go.Proofs.YtpiheobpobclgaaGreatDoor
open Go.RowKit

set_option maxRecDepth 100000 in
set_option maxHeartbeats 1600000 in
/-- laws.markStringS -/
theorem markStringS_p (k0 : Nat) (h0 : 0 < k0) (v : Value) (fp : List Nat) (w : World) (h : PT.okS PT.tstr w v fp) (hm : Mine w 0 fp) (hL : k0 + (PT.planS PT.tstr w v).length ≤ 1073741824) :
    Calls Tryz.prog 23 #[v, .int .i64 (k0 : Int)] w fun e w' => e = .returned (.int .i64 ((k0 + (PT.planS PT.tstr w v).length : Nat) : Int)) ∧ Stored w w' (PT.planS PT.tstr w v) k0 := by
  obtain ⟨a, n, cap, rfl, hnc, hcm, r⟩ := PT.okS_form h hm
  have R := Lib.hid r
  have HL := Lib.hid hL
  clear r hL h hm
  have hnI : (n : Int) ≤ 9223372036854775807 := by unfold maxLen at hcm; omega
  clear hnc hcm
  go_enter Tryz.func23, Tryz.ntmps23
  go_wp2
  go_loopw [1, 5] (fun kk i wr => ∃ j K : Nat, i = .int .i64 (j : Int) ∧ kk = .int .i64 (K : Int) ∧ Hid (K = k0 + (PT.planS PT.tstr w (.slice a j cap)).length) ∧ j ≤ n ∧ Hid (Stored w wr (PT.planS PT.tstr w (.slice a j cap)) k0)) (fun _ i _ => n - (intOf i).toNat)
  case atStart => exact ⟨0, k0, rfl, rfl, Lib.hid (by rw [PT.planS_zero]; rfl), Nat.zero_le _, Lib.hid (by rw [PT.planS_zero]; exact stored_refl _ _)⟩
  case round =>
    obtain ⟨j, K, rfl, rfl, HK, hj, HS⟩ := hrel
    by_cases hlt : j < n
    · have hlt2 : (j : Int) < (n : Int) := by omega
      obtain ⟨b, o, f, rfl, hb, hok, hmf⟩ := R.out (by omega)
      obtain ⟨g, ok, mine, hpl⟩ := round_open hok hb hmf hlt HS.out
      have hrl := PT.rows_len_le PT.tstr w b o hlt
      obtain ⟨⟨uv0, d0⟩, rfl⟩ := ok
      have hj1 : o + j * PT.tstr.size = o + j := by rw [show PT.tstr.size = 1 from rfl, Nat.mul_one]
      replace d0 : wr.cell? ⟨b, o + j, none⟩ = some uv0 := hj1 ▸ d0
      try simp only [List.nil_append, List.append_nil] at mine
      have hQ : ([] : List (Addr × MK)) ++ [(⟨b, o + j, none⟩, MK.str)] = PT.tstr.plan w b (o + j * PT.tstr.size) := by rw [← hpl, hj1]; rfl
      have hql : (PT.tstr.plan w b (o + j * PT.tstr.size)).length = 1 := by rw [← hQ]; simp only [List.length_append, List.length_cons, List.length_nil] <;> omega
      have HR : Hid (∀ K2 w2, Stored wr w2 (([] : List (Addr × MK)) ++ [(⟨b, o + j, none⟩, MK.str)]) K → K2 = K + (1) → K2 = k0 + (PT.planS PT.tstr w (.slice (some ⟨b, o, none⟩) (j + 1) cap)).length ∧ Stored w w2 (PT.planS PT.tstr w (.slice (some ⟨b, o, none⟩) (j + 1) cap)) k0) := Lib.hid fun K2 w2 hs hk => by
        have hKK := HK.out
        replace hKK : K = k0 + ((PT.rows PT.tstr j).plan w b o).length := hKK
        refine ⟨?_, round_close hok hmf hlt HS.out (hKK ▸ hs) hQ⟩
        show K2 = k0 + ((PT.rows PT.tstr (j + 1)).plan w b o).length
        rw [PT.rows_snoc, List.length_append, hql]; omega
      have hKb : (K : Int) + ((1 : Nat) : Int) ≤ 1073741824 := by
        have h1 := HK.out; replace h1 : K = k0 + ((PT.rows PT.tstr j).plan w b o).length := h1
        have h2 := HL.out; replace h2 : k0 + ((PT.rows PT.tstr n).plan w b o).length ≤ 1073741824 := h2
        omega
      have hK0 : 0 < K := by have := HK.out; omega
      have hK0I : (0 : Int) ≤ (K : Int) := by omega
      have fr := mine.free b List.mem_cons_self
      have z0 := fr (o + j)
      have HF := Lib.hid fr
      clear hql hQ hpl hrl hok hmf fr mine
      have S0 := Lib.hid (stored_refl wr K)
      have D0 := Lib.hid d0
      have C0 : Hid (∀ W, Calls Tryz.prog 43 #[.int .i64 ((K : Int))] W fun e w' => e = .returned (.string (markB K)) ∧ Below W.heap.size W w') :=
        Lib.hid fun W => by rw [show ((K : Int)) = ((K : Nat) : Int) from by omega]; exact markText_any K (by omega) (by omega) W
      go_wp2_with fail
      refine (C0.out _).mono ?_
      rintro e w1 ⟨rfl, k1⟩
      have T0 := Lib.hid (S0.out.trans (stored_below _ k1) (fun _ _ h => by cases h))
      rw [List.append_nil] at T0
      clear d0
      clear z0
      have d0 := T0.out.at D0.out (notIn_nil _)
      have z0 := T0.out.fro D0.out (HF.out _)
      have S1 : Hid (Stored wr (w1.setCell ⟨b, o + j, none⟩ (.string (markB K))) (([] : List (Addr × MK)) ++ [(⟨b, o + j, none⟩, MK.str)]) K) := Lib.hid (Stored.put (n := K) .str S0.out k1 D0.out (notIn_nil _) (by simp only [List.length_append, List.length_cons, List.length_nil] <;> (omega)))
      clear k1
      obtain ⟨hE1, hE2⟩ := HR.out (K + 1) _ S1.out (by  omega)
      have HE1 := Lib.hid hE1
      have HE2 := Lib.hid hE2
      clear hE1 hE2
      go_wp2
      go_roundw
      case rel => exact ⟨j + 1, (K + 1), by go_num, by go_num, HE1, by omega, HE2⟩
      case measure => simp [intOf]; omega
    · have hlt2 : (n : Int) ≤ (j : Int) := by omega
      obtain rfl : j = n := by omega
      go_wp2
      go_ret
      exact ⟨ret_int (by rw [HK.out]), HS.out⟩

set_option maxRecDepth 100000 in
set_option maxHeartbeats 1600000 in
/-- laws.heldStringS -/
theorem heldStringS_p (k0 : Nat) (h0 : 0 < k0) (v : Value) (L0 : Nat) (w : World) (h : HeldS PT.tstr w v k0 L0) (hL : k0 + L0 ≤ 1073741824) :
    Calls Tryz.prog 25 #[v, .int .i64 (k0 : Int)] w fun e w' => e = .returned (.int .i64 ((k0 + L0 : Nat) : Int)) ∧ Below w.heap.size w w' := by
  obtain ⟨a, n, cap, rfl, hnc, hcm, hz, r⟩ := h.form
  have R := Lib.hid r
  have HL := Lib.hid hL
  have HZ := Lib.hid hz
  clear r hL h hz
  have hnI : (n : Int) ≤ 9223372036854775807 := by unfold maxLen at hcm; omega
  clear hnc hcm
  go_enter Tryz.func25, Tryz.ntmps25
  go_wp2
  go_loopw [1, 5] (fun kk i wr => ∃ j K : Nat, i = .int .i64 (j : Int) ∧ kk = .int .i64 (K : Int) ∧ Hid (K = k0 + (PT.planS PT.tstr w (.slice a j cap)).length) ∧ j ≤ n ∧ Below w.heap.size w wr) (fun _ i _ => n - (intOf i).toNat)
  case atStart => exact ⟨0, k0, rfl, rfl, Lib.hid (by rw [PT.planS_zero]; rfl), Nat.zero_le _, Below.refl _ _⟩
  case round =>
    obtain ⟨j, K, rfl, rfl, HK, hj, hb⟩ := hrel
    by_cases hlt : j < n
    · have hlt2 : (j : Int) < (n : Int) := by omega
      obtain ⟨b, o, rfl, hbw, hLe, hc⟩ := R.out (by omega)
      have hKK := HK.out
      replace hKK : K = k0 + ((PT.rows PT.tstr j).plan w b o).length := hKK
      have hrl := PT.rows_len_le PT.tstr w b o hlt
      have hA := hc j hlt
      rw [← hKK] at hA
      obtain ⟨Lj, hLj⟩ : ∃ Lj, (PT.tstr.plan w b (o + j * PT.tstr.size)).length = Lj := ⟨_, rfl⟩
      rw [hLj] at hA hrl
      have HN : Hid (∀ K2, K2 = K + Lj → K2 = k0 + (PT.planS PT.tstr w (.slice (some ⟨b, o, none⟩) (j + 1) cap)).length) := Lib.hid fun K2 hk => by
        show K2 = k0 + ((PT.rows PT.tstr (j + 1)).plan w b o).length
        rw [PT.rows_snoc, List.length_append, hLj]; omega
      have hKj : K + Lj ≤ 1073741824 := by have := HL.out; omega
      obtain ⟨g, ok, hnd, hbl, hmk, hlen⟩ := hA.below hb
      clear hA hc hLe hrl hLj hKK
      have hj1 : o + j * PT.tstr.size = o + j := by rw [show PT.tstr.size = 1 from rfl, Nat.mul_one]
      rw [hj1] at ok hmk hlen
      obtain ⟨⟨uv0, d0⟩, rfl⟩ := ok
      replace d0 : wr.cell? ⟨b, o + j, none⟩ = some uv0 := d0
      replace hmk : Marked wr ([(⟨b, o + j, none⟩, MK.str)] : List (Addr × MK)) K := hmk
      replace hlen : ([(⟨b, o + j, none⟩, MK.str)] : List (Addr × MK)).length = Lj := hlen
      simp only [List.length_append, List.length_cons, List.length_nil] at hlen
      have e0 : wr.cell? ⟨b, o + j, none⟩ = some (.string (markB K)) := (hmk).one
      have hKt : K + 1 ≤ 1073741824 := by omega
      have hK0 : 0 < K := by have := HK.out; omega
      have hK0I : (0 : Int) ≤ (K : Int) := by omega
      have hgl : b < wr.heap.size := hbl
      have HT : Hid ((K + 1) = K + Lj) := Lib.hid (by omega)
      have C0 : Hid (∀ W, Calls Tryz.prog 43 #[.int .i64 ((K : Int))] W fun e w' => e = .returned (.string (markB K)) ∧ Below W.heap.size W w') :=
        Lib.hid fun W => by rw [show ((K : Int)) = ((K : Nat) : Int) from by omega]; exact markText_any K (by omega) (by omega) W
      clear hmk hlen hnd d0
      generalize markB K = s0 at *
      go_wp2_with fail
      have hx2 := fun (u : World) (b o : Nat) (h : b < wr.heap.size) => ext_cell wr u b o h
      refine wp_region_ext (by kernel_rfl) (by kernel_rfl) wr.heap.size ?_
      repeat (any_goals (go_big_quiet_step ((go_at_call 43; exact calls_ext (by first | (simp; done) | omega | (simp; omega)) (C0.out _)))))
      refine wpQuiet_nil ?_
      intro w1 k1
      clear hx2
      clear e0
      replace hgl : b < w1.heap.size := by have := k1.size; omega
      replace hb : Below w.heap.size w w1 := below_after k1 hb
      clear k1
      go_wp2
      go_roundw
      case rel => exact ⟨j + 1, (K + 1), by go_num, by go_num, Lib.hid (HN.out _ HT.out), by omega, hb⟩
      case measure => simp [intOf]; omega
    · have hlt2 : (n : Int) ≤ (j : Int) := by omega
      obtain rfl : j = n := by omega
      go_wp2
      go_ret
      refine ⟨ret_int ?_, hb⟩
      rw [HK.out]
      by_cases hj0 : j = 0
      · subst hj0
        rw [PT.planS_zero, HZ.out rfl]; rfl
      · obtain ⟨b, o, rfl, _, hLe, _⟩ := R.out (by omega)
        rw [hLe]; rfl

end Go.Proofs.YtpiheobpobclgaaGreatDoor


/- laws.markWriteS, laws.heldWriteS. Printed by mkmark.py. -/
namespace Go.Proofs.YtpiheobpobclgaaGreatDoor
open Go.RowKit

set_option maxRecDepth 100000 in
set_option maxHeartbeats 1600000 in
/-- laws.markWriteS -/
theorem markWriteS_p (k0 : Nat) (h0 : 0 < k0) (v : Value) (fp : List Nat) (w : World) (h : PT.okS PT.twrite w v fp) (hm : Mine w 0 fp) (hL : k0 + (PT.planS PT.twrite w v).length ≤ 1073741824) :
    Calls Tryz.prog 24 #[v, .int .i64 (k0 : Int)] w fun e w' => e = .returned (.int .i64 ((k0 + (PT.planS PT.twrite w v).length : Nat) : Int)) ∧ Stored w w' (PT.planS PT.twrite w v) k0 := by
  obtain ⟨a, n, cap, rfl, hnc, hcm, r⟩ := PT.okS_form h hm
  have R := Lib.hid r
  have HL := Lib.hid hL
  clear r hL h hm
  have hnI : (n : Int) ≤ 9223372036854775807 := by unfold maxLen at hcm; omega
  clear hnc hcm
  go_enter Tryz.func24, Tryz.ntmps24
  go_wp2
  go_loopw [1, 5] (fun kk i wr => ∃ j K : Nat, i = .int .i64 (j : Int) ∧ kk = .int .i64 (K : Int) ∧ Hid (K = k0 + (PT.planS PT.twrite w (.slice a j cap)).length) ∧ j ≤ n ∧ Hid (Stored w wr (PT.planS PT.twrite w (.slice a j cap)) k0)) (fun _ i _ => n - (intOf i).toNat)
  case atStart => exact ⟨0, k0, rfl, rfl, Lib.hid (by rw [PT.planS_zero]; rfl), Nat.zero_le _, Lib.hid (by rw [PT.planS_zero]; exact stored_refl _ _)⟩
  case round =>
    obtain ⟨j, K, rfl, rfl, HK, hj, HS⟩ := hrel
    by_cases hlt : j < n
    · have hlt2 : (j : Int) < (n : Int) := by omega
      obtain ⟨b, o, f, rfl, hb, hok, hmf⟩ := R.out (by omega)
      obtain ⟨g, ok, mine, hpl⟩ := round_open hok hb hmf hlt HS.out
      have hrl := PT.rows_len_le PT.twrite w b o hlt
      obtain ⟨f0, f0r, rfl, ⟨⟨uv0, d0⟩, rfl⟩, ⟨f1, f1r, rfl, ⟨⟨uv1, d1⟩, rfl⟩, ⟨⟨uv2, d2⟩, rfl⟩⟩⟩ := ok
      replace d0 : wr.cell? ⟨b, o + j * 3, none⟩ = some uv0 := d0
      replace d1 : wr.cell? ⟨b, o + j * 3 + 1, none⟩ = some uv1 := d1
      replace d2 : wr.cell? ⟨b, o + j * 3 + 2, none⟩ = some uv2 := d2
      try simp only [List.nil_append, List.append_nil] at mine
      have hQ : ([] : List (Addr × MK)) ++ [(⟨b, o + j * 3, none⟩, MK.str)] ++ [(⟨b, o + j * 3 + 1, none⟩, MK.str)] ++ [(⟨b, o + j * 3 + 2, none⟩, MK.bool)] = PT.twrite.plan w b (o + j * PT.twrite.size) := by rw [← hpl]; rfl
      have hql : (PT.twrite.plan w b (o + j * PT.twrite.size)).length = 3 := by rw [← hQ]; simp only [List.length_append, List.length_cons, List.length_nil] <;> omega
      have HR : Hid (∀ K2 w2, Stored wr w2 (([] : List (Addr × MK)) ++ [(⟨b, o + j * 3, none⟩, MK.str)] ++ [(⟨b, o + j * 3 + 1, none⟩, MK.str)] ++ [(⟨b, o + j * 3 + 2, none⟩, MK.bool)]) K → K2 = K + (3) → K2 = k0 + (PT.planS PT.twrite w (.slice (some ⟨b, o, none⟩) (j + 1) cap)).length ∧ Stored w w2 (PT.planS PT.twrite w (.slice (some ⟨b, o, none⟩) (j + 1) cap)) k0) := Lib.hid fun K2 w2 hs hk => by
        have hKK := HK.out
        replace hKK : K = k0 + ((PT.rows PT.twrite j).plan w b o).length := hKK
        refine ⟨?_, round_close hok hmf hlt HS.out (hKK ▸ hs) hQ⟩
        show K2 = k0 + ((PT.rows PT.twrite (j + 1)).plan w b o).length
        rw [PT.rows_snoc, List.length_append, hql]; omega
      have hKb : (K : Int) + ((3 : Nat) : Int) ≤ 1073741824 := by
        have h1 := HK.out; replace h1 : K = k0 + ((PT.rows PT.twrite j).plan w b o).length := h1
        have h2 := HL.out; replace h2 : k0 + ((PT.rows PT.twrite n).plan w b o).length ≤ 1073741824 := h2
        omega
      have hK0 : 0 < K := by have := HK.out; omega
      have hK0I : (0 : Int) ≤ (K : Int) := by omega
      have fr := mine.free b List.mem_cons_self
      have z0 := fr (o + j * 3)
      have z1 := fr (o + j * 3 + 1)
      have z2 := fr (o + j * 3 + 2)
      have HF := Lib.hid fr
      clear hql hQ hpl hrl hok hmf fr mine
      have S0 := Lib.hid (stored_refl wr K)
      have D0 := Lib.hid d0
      have D1 := Lib.hid d1
      have D2 := Lib.hid d2
      have C0 : Hid (∀ W, Calls Tryz.prog 43 #[.int .i64 ((K : Int))] W fun e w' => e = .returned (.string (markB K)) ∧ Below W.heap.size W w') :=
        Lib.hid fun W => by rw [show ((K : Int)) = ((K : Nat) : Int) from by omega]; exact markText_any K (by omega) (by omega) W
      go_wp2_with fail
      refine (C0.out _).mono ?_
      rintro e w1 ⟨rfl, k1⟩
      have T0 := Lib.hid (S0.out.trans (stored_below _ k1) (fun _ _ h => by cases h))
      rw [List.append_nil] at T0
      clear d0 d1 d2
      clear z0 z1 z2
      have d0 := T0.out.at D0.out (notIn_nil _)
      have z0 := T0.out.fro D0.out (HF.out _)
      have d1 := T0.out.at D1.out (notIn_nil _)
      have z1 := T0.out.fro D1.out (HF.out _)
      have d2 := T0.out.at D2.out (notIn_nil _)
      have z2 := T0.out.fro D2.out (HF.out _)
      have S1 : Hid (Stored wr (w1.setCell ⟨b, o + j * 3, none⟩ (.string (markB K))) (([] : List (Addr × MK)) ++ [(⟨b, o + j * 3, none⟩, MK.str)]) K) := Lib.hid (Stored.put (n := K) .str S0.out k1 D0.out (notIn_nil _) (by simp only [List.length_append, List.length_cons, List.length_nil] <;> (omega)))
      clear k1
      have C1 : Hid (∀ W, Calls Tryz.prog 43 #[.int .i64 ((K : Int) + 1)] W fun e w' => e = .returned (.string (markB (K + 1))) ∧ Below W.heap.size W w') :=
        Lib.hid fun W => by rw [show ((K : Int) + 1) = (((K + 1) : Nat) : Int) from by omega]; exact markText_any (K + 1) (by omega) (by omega) W
      go_wp2_with fail
      refine (C1.out _).mono ?_
      rintro e w2 ⟨rfl, k2⟩
      have T1 := Lib.hid (S1.out.trans (stored_below _ k2) (fun _ _ h => by cases h))
      rw [List.append_nil] at T1
      clear d0 d1 d2
      clear z0 z1 z2
      have d1 := T1.out.at D1.out (notIn_snoc (notIn_nil _) (fun e => by injection e; omega))
      have z1 := T1.out.fro D1.out (HF.out _)
      have d2 := T1.out.at D2.out (notIn_snoc (notIn_nil _) (fun e => by injection e; omega))
      have z2 := T1.out.fro D2.out (HF.out _)
      have S2 : Hid (Stored wr (w2.setCell ⟨b, o + j * 3 + 1, none⟩ (.string (markB (K + 1)))) (([] : List (Addr × MK)) ++ [(⟨b, o + j * 3, none⟩, MK.str)] ++ [(⟨b, o + j * 3 + 1, none⟩, MK.str)]) K) := Lib.hid (Stored.put (n := (K + 1)) .str S1.out k2 D1.out (notIn_snoc (notIn_nil _) (fun e => by injection e; omega)) (by simp only [List.length_append, List.length_cons, List.length_nil] <;> (omega)))
      clear k2
      have hg2 : ((((K : Int) + 1 + 1) % 3) == 0) = goneK (K + 2) := by unfold goneK; rw [show ((K : Int) + 1 + 1) = (((K + 2) : Nat) : Int) from by omega, Bool.eq_iff_iff, beq_iff_eq, decide_eq_true_iff]
      have S3 : Hid (Stored wr ((w2.setCell ⟨b, o + j * 3 + 1, none⟩ (.string (markB (K + 1)))).setCell ⟨b, o + j * 3 + 2, none⟩ (.bool (goneK (K + 2)))) (([] : List (Addr × MK)) ++ [(⟨b, o + j * 3, none⟩, MK.str)] ++ [(⟨b, o + j * 3 + 1, none⟩, MK.str)] ++ [(⟨b, o + j * 3 + 2, none⟩, MK.bool)]) K) := Lib.hid (Stored.put (n := (K + 2)) .bool S2.out (Below.refl _ _) D2.out (notIn_snoc (notIn_snoc (notIn_nil _) (fun e => by injection e; omega)) (fun e => by injection e; omega)) (by simp only [List.length_append, List.length_cons, List.length_nil] <;> (omega)))
      obtain ⟨hE1, hE2⟩ := HR.out (K + 3) _ S3.out (by  omega)
      have HE1 := Lib.hid hE1
      have HE2 := Lib.hid hE2
      clear hE1 hE2
      go_wp2
      go_roundw
      case rel => exact ⟨j + 1, (K + 3), by go_num, by go_num, HE1, by omega, HE2⟩
      case measure => simp [intOf]; omega
    · have hlt2 : (n : Int) ≤ (j : Int) := by omega
      obtain rfl : j = n := by omega
      go_wp2
      go_ret
      exact ⟨ret_int (by rw [HK.out]), HS.out⟩

set_option maxRecDepth 100000 in
set_option maxHeartbeats 1600000 in
/-- laws.heldWriteS -/
theorem heldWriteS_p (k0 : Nat) (h0 : 0 < k0) (v : Value) (L0 : Nat) (w : World) (h : HeldS PT.twrite w v k0 L0) (hL : k0 + L0 ≤ 1073741824) :
    Calls Tryz.prog 26 #[v, .int .i64 (k0 : Int)] w fun e w' => e = .returned (.int .i64 ((k0 + L0 : Nat) : Int)) ∧ Below w.heap.size w w' := by
  obtain ⟨a, n, cap, rfl, hnc, hcm, hz, r⟩ := h.form
  have R := Lib.hid r
  have HL := Lib.hid hL
  have HZ := Lib.hid hz
  clear r hL h hz
  have hnI : (n : Int) ≤ 9223372036854775807 := by unfold maxLen at hcm; omega
  clear hnc hcm
  go_enter Tryz.func26, Tryz.ntmps26
  go_wp2
  go_loopw [1, 5] (fun kk i wr => ∃ j K : Nat, i = .int .i64 (j : Int) ∧ kk = .int .i64 (K : Int) ∧ Hid (K = k0 + (PT.planS PT.twrite w (.slice a j cap)).length) ∧ j ≤ n ∧ Below w.heap.size w wr) (fun _ i _ => n - (intOf i).toNat)
  case atStart => exact ⟨0, k0, rfl, rfl, Lib.hid (by rw [PT.planS_zero]; rfl), Nat.zero_le _, Below.refl _ _⟩
  case round =>
    obtain ⟨j, K, rfl, rfl, HK, hj, hb⟩ := hrel
    by_cases hlt : j < n
    · have hlt2 : (j : Int) < (n : Int) := by omega
      obtain ⟨b, o, rfl, hbw, hLe, hc⟩ := R.out (by omega)
      have hKK := HK.out
      replace hKK : K = k0 + ((PT.rows PT.twrite j).plan w b o).length := hKK
      have hrl := PT.rows_len_le PT.twrite w b o hlt
      have hA := hc j hlt
      rw [← hKK] at hA
      obtain ⟨Lj, hLj⟩ : ∃ Lj, (PT.twrite.plan w b (o + j * PT.twrite.size)).length = Lj := ⟨_, rfl⟩
      rw [hLj] at hA hrl
      have HN : Hid (∀ K2, K2 = K + Lj → K2 = k0 + (PT.planS PT.twrite w (.slice (some ⟨b, o, none⟩) (j + 1) cap)).length) := Lib.hid fun K2 hk => by
        show K2 = k0 + ((PT.rows PT.twrite (j + 1)).plan w b o).length
        rw [PT.rows_snoc, List.length_append, hLj]; omega
      have hKj : K + Lj ≤ 1073741824 := by have := HL.out; omega
      obtain ⟨g, ok, hnd, hbl, hmk, hlen⟩ := hA.below hb
      clear hA hc hLe hrl hLj hKK
      obtain ⟨f0, f0r, rfl, ⟨⟨uv0, d0⟩, rfl⟩, ⟨f1, f1r, rfl, ⟨⟨uv1, d1⟩, rfl⟩, ⟨⟨uv2, d2⟩, rfl⟩⟩⟩ := ok
      replace d0 : wr.cell? ⟨b, o + j * 3, none⟩ = some uv0 := d0
      replace d1 : wr.cell? ⟨b, o + j * 3 + 1, none⟩ = some uv1 := d1
      replace d2 : wr.cell? ⟨b, o + j * 3 + 2, none⟩ = some uv2 := d2
      replace hmk : Marked wr ([(⟨b, o + j * 3, none⟩, MK.str)] ++ ([(⟨b, o + j * 3 + 1, none⟩, MK.str)] ++ ([(⟨b, o + j * 3 + 2, none⟩, MK.bool)])) : List (Addr × MK)) K := hmk
      replace hlen : ([(⟨b, o + j * 3, none⟩, MK.str)] ++ ([(⟨b, o + j * 3 + 1, none⟩, MK.str)] ++ ([(⟨b, o + j * 3 + 2, none⟩, MK.bool)])) : List (Addr × MK)).length = Lj := hlen
      simp only [List.length_append, List.length_cons, List.length_nil] at hlen
      have e0 : wr.cell? ⟨b, o + j * 3, none⟩ = some (.string (markB K)) := (hmk.left).one
      have q0 : Marked wr _ (K + 1) := hmk.right
      have e1 : wr.cell? ⟨b, o + j * 3 + 1, none⟩ = some (.string (markB (K + 1))) := (q0.left).one
      have q1 : Marked wr _ (K + 2) := q0.right
      have e2 : wr.cell? ⟨b, o + j * 3 + 2, none⟩ = some (.bool (goneK (K + 2))) := (q1).one
      have hKt : K + 3 ≤ 1073741824 := by omega
      have hK0 : 0 < K := by have := HK.out; omega
      have hK0I : (0 : Int) ≤ (K : Int) := by omega
      have hgl : b < wr.heap.size := hbl
      have HT : Hid ((K + 3) = K + Lj) := Lib.hid (by omega)
      have C0 : Hid (∀ W, Calls Tryz.prog 43 #[.int .i64 ((K : Int))] W fun e w' => e = .returned (.string (markB K)) ∧ Below W.heap.size W w') :=
        Lib.hid fun W => by rw [show ((K : Int)) = ((K : Nat) : Int) from by omega]; exact markText_any K (by omega) (by omega) W
      have C1 : Hid (∀ W, Calls Tryz.prog 43 #[.int .i64 ((K : Int) + 1)] W fun e w' => e = .returned (.string (markB (K + 1))) ∧ Below W.heap.size W w') :=
        Lib.hid fun W => by rw [show ((K : Int) + 1) = (((K + 1) : Nat) : Int) from by omega]; exact markText_any (K + 1) (by omega) (by omega) W
      have hg2 : ((((K : Int) + 1 + 1) % 3) == 0) = goneK (K + 2) := by unfold goneK; rw [show ((K : Int) + 1 + 1) = (((K + 2) : Nat) : Int) from by omega, Bool.eq_iff_iff, beq_iff_eq, decide_eq_true_iff]
      clear hmk hlen hnd q0 q1 d0 d1 d2
      generalize markB K = s0 at *
      generalize markB (K + 1) = s1 at *
      generalize goneK (K + 2) = gb2 at *
      have nb2 : (gb2 != gb2) = false := by simp
      go_wp2_with fail
      have hx2 := fun (u : World) (b o : Nat) (h : b < wr.heap.size) => ext_cell wr u b o h
      refine wp_region_ext (by kernel_rfl) (by kernel_rfl) wr.heap.size ?_
      repeat (any_goals (go_big_quiet_step ((go_at_call 43; exact calls_ext (by first | (simp; done) | omega | (simp; omega)) (C0.out _)))))
      refine wpQuiet_nil ?_
      intro w1 k1
      clear hx2
      replace e1 := cell_step k1 e1
      replace e2 := cell_step k1 e2
      clear e0
      replace hgl : b < w1.heap.size := by have := k1.size; omega
      replace hb : Below w.heap.size w w1 := below_after k1 hb
      clear k1
      go_wp2_with fail
      have hx2 := fun (u : World) (b o : Nat) (h : b < w1.heap.size) => ext_cell w1 u b o h
      refine wp_region_ext (by kernel_rfl) (by kernel_rfl) w1.heap.size ?_
      repeat (any_goals (go_big_quiet_step ((go_at_call 43; exact calls_ext (by first | (simp; done) | omega | (simp; omega)) (C1.out _)))))
      refine wpQuiet_nil ?_
      intro w2 k2
      clear hx2
      replace e2 := cell_step k2 e2
      clear e1
      replace hgl : b < w2.heap.size := by have := k2.size; omega
      replace hb : Below w.heap.size w w2 := below_after k2 hb
      clear k2
      go_wp2
      go_roundw
      case rel => exact ⟨j + 1, (K + 3), by go_num, by go_num, Lib.hid (HN.out _ HT.out), by omega, hb⟩
      case measure => simp [intOf]; omega
    · have hlt2 : (n : Int) ≤ (j : Int) := by omega
      obtain rfl : j = n := by omega
      go_wp2
      go_ret
      refine ⟨ret_int ?_, hb⟩
      rw [HK.out]
      by_cases hj0 : j = 0
      · subst hj0
        rw [PT.planS_zero, HZ.out rfl]; rfl
      · obtain ⟨b, o, rfl, _, hLe, _⟩ := R.out (by omega)
        rw [hLe]; rfl

end Go.Proofs.YtpiheobpobclgaaGreatDoor


/- laws.markRecS, laws.heldRecS. Printed by mkmark.py. -/
namespace Go.Proofs.YtpiheobpobclgaaGreatDoor
open Go.RowKit

end Go.Proofs.YtpiheobpobclgaaGreatDoor


/- laws.markEntryS, laws.heldEntryS. Printed by mkmark.py. -/
namespace Go.Proofs.YtpiheobpobclgaaGreatDoor
open Go.RowKit

end Go.Proofs.YtpiheobpobclgaaGreatDoor


/- laws.markReplicaS, laws.heldReplicaS. Printed by mkmark.py. -/
namespace Go.Proofs.YtpiheobpobclgaaGreatDoor
open Go.RowKit

end Go.Proofs.YtpiheobpobclgaaGreatDoor

