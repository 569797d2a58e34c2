/- Plain lemmas and contracts that all proofs of this seat lean on: bundle Marks. -/
import Derived.Test.YtogdbjalgledpaaPlanT
/- laws.markStringS, laws.heldStringS. Printed by mkmark.py. -/
namespace Go.Proofs.Ytogdbjalgledpaa
open Go.RowKit

set_option maxRecDepth 100000 in
set_option maxHeartbeats 1600000 in
/-- laws.markStringS -/
theorem markStringS_p (k0 : Nat) (h0 : 0 < k0) (v : Value) (fp : List Nat) (w : World) (h : PT.okS PT.tstr w v fp) (hm : Mine w 0 fp) (hL : k0 + (PT.planS PT.tstr w v).length ≤ 1073741824) :
    Calls Try.prog 65 #[v, .int .i64 (k0 : Int)] w fun e w' => e = .returned (.int .i64 ((k0 + (PT.planS PT.tstr w v).length : Nat) : Int)) ∧ Stored w w' (PT.planS PT.tstr w v) k0 := by
  obtain ⟨a, n, cap, rfl, hnc, hcm, r⟩ := PT.okS_form h hm
  have R := Lib.hid r
  have HL := Lib.hid hL
  clear r hL h hm
  have hnI : (n : Int) ≤ 9223372036854775807 := by unfold maxLen at hcm; omega
  clear hnc hcm
  go_enter Try.func65, Try.ntmps65
  go_wp2
  go_loopw [1, 5] (fun kk i wr => ∃ j K : Nat, i = .int .i64 (j : Int) ∧ kk = .int .i64 (K : Int) ∧ Hid (K = k0 + (PT.planS PT.tstr w (.slice a j cap)).length) ∧ j ≤ n ∧ Hid (Stored w wr (PT.planS PT.tstr w (.slice a j cap)) k0)) (fun _ i _ => n - (intOf i).toNat)
  case atStart => exact ⟨0, k0, rfl, rfl, Lib.hid (by rw [PT.planS_zero]; rfl), Nat.zero_le _, Lib.hid (by rw [PT.planS_zero]; exact stored_refl _ _)⟩
  case round =>
    obtain ⟨j, K, rfl, rfl, HK, hj, HS⟩ := hrel
    by_cases hlt : j < n
    · have hlt2 : (j : Int) < (n : Int) := by omega
      obtain ⟨b, o, f, rfl, hb, hok, hmf⟩ := R.out (by omega)
      obtain ⟨g, ok, mine, hpl⟩ := round_open hok hb hmf hlt HS.out
      have hrl := PT.rows_len_le PT.tstr w b o hlt
      obtain ⟨⟨uv0, d0⟩, rfl⟩ := ok
      have hj1 : o + j * PT.tstr.size = o + j := by rw [show PT.tstr.size = 1 from rfl, Nat.mul_one]
      replace d0 : wr.cell? ⟨b, o + j, none⟩ = some uv0 := hj1 ▸ d0
      try simp only [List.nil_append, List.append_nil] at mine
      have hQ : ([] : List (Addr × MK)) ++ [(⟨b, o + j, none⟩, MK.str)] = PT.tstr.plan w b (o + j * PT.tstr.size) := by rw [← hpl, hj1]; rfl
      have hql : (PT.tstr.plan w b (o + j * PT.tstr.size)).length = 1 := by rw [← hQ]; simp only [List.length_append, List.length_cons, List.length_nil] <;> omega
      have HR : Hid (∀ K2 w2, Stored wr w2 (([] : List (Addr × MK)) ++ [(⟨b, o + j, none⟩, MK.str)]) K → K2 = K + (1) → K2 = k0 + (PT.planS PT.tstr w (.slice (some ⟨b, o, none⟩) (j + 1) cap)).length ∧ Stored w w2 (PT.planS PT.tstr w (.slice (some ⟨b, o, none⟩) (j + 1) cap)) k0) := Lib.hid fun K2 w2 hs hk => by
        have hKK := HK.out
        replace hKK : K = k0 + ((PT.rows PT.tstr j).plan w b o).length := hKK
        refine ⟨?_, round_close hok hmf hlt HS.out (hKK ▸ hs) hQ⟩
        show K2 = k0 + ((PT.rows PT.tstr (j + 1)).plan w b o).length
        rw [PT.rows_snoc, List.length_append, hql]; omega
      have hKb : (K : Int) + ((1 : Nat) : Int) ≤ 1073741824 := by
        have h1 := HK.out; replace h1 : K = k0 + ((PT.rows PT.tstr j).plan w b o).length := h1
        have h2 := HL.out; replace h2 : k0 + ((PT.rows PT.tstr n).plan w b o).length ≤ 1073741824 := h2
        omega
      have hK0 : 0 < K := by have := HK.out; omega
      have hK0I : (0 : Int) ≤ (K : Int) := by omega
      have fr := mine.free b List.mem_cons_self
      have z0 := fr (o + j)
      have HF := Lib.hid fr
      clear hql hQ hpl hrl hok hmf fr mine
      have S0 := Lib.hid (stored_refl wr K)
      have D0 := Lib.hid d0
      have C0 : Hid (∀ W, Calls Try.prog 104 #[.int .i64 ((K : Int))] W fun e w' => e = .returned (.string (markB K)) ∧ Below W.heap.size W w') :=
        Lib.hid fun W => by rw [show ((K : Int)) = ((K : Nat) : Int) from by omega]; exact markText_any K (by omega) (by omega) W
      go_wp2_with fail
      refine (C0.out _).mono ?_
      rintro e w1 ⟨rfl, k1⟩
      have T0 := Lib.hid (S0.out.trans (stored_below _ k1) (fun _ _ h => by cases h))
      rw [List.append_nil] at T0
      clear d0
      clear z0
      have d0 := T0.out.at D0.out (notIn_nil _)
      have z0 := T0.out.fro D0.out (HF.out _)
      have S1 : Hid (Stored wr (w1.setCell ⟨b, o + j, none⟩ (.string (markB K))) (([] : List (Addr × MK)) ++ [(⟨b, o + j, none⟩, MK.str)]) K) := Lib.hid (Stored.put (n := K) .str S0.out k1 D0.out (notIn_nil _) (by simp only [List.length_append, List.length_cons, List.length_nil] <;> (omega)))
      clear k1
      obtain ⟨hE1, hE2⟩ := HR.out (K + 1) _ S1.out (by  omega)
      have HE1 := Lib.hid hE1
      have HE2 := Lib.hid hE2
      clear hE1 hE2
      go_wp2
      go_roundw
      case rel => exact ⟨j + 1, (K + 1), by go_num, by go_num, HE1, by omega, HE2⟩
      case measure => simp [intOf]; omega
    · have hlt2 : (n : Int) ≤ (j : Int) := by omega
      obtain rfl : j = n := by omega
      go_wp2
      go_ret
      exact ⟨ret_int (by rw [HK.out]), HS.out⟩

set_option maxRecDepth 100000 in
set_option maxHeartbeats 1600000 in
/-- laws.heldStringS -/
theorem heldStringS_p (k0 : Nat) (h0 : 0 < k0) (v : Value) (L0 : Nat) (w : World) (h : HeldS PT.tstr w v k0 L0) (hL : k0 + L0 ≤ 1073741824) :
    Calls Try.prog 121 #[v, .int .i64 (k0 : Int)] w fun e w' => e = .returned (.int .i64 ((k0 + L0 : Nat) : Int)) ∧ Below w.heap.size w w' := by
  obtain ⟨a, n, cap, rfl, hnc, hcm, hz, r⟩ := h.form
  have R := Lib.hid r
  have HL := Lib.hid hL
  have HZ := Lib.hid hz
  clear r hL h hz
  have hnI : (n : Int) ≤ 9223372036854775807 := by unfold maxLen at hcm; omega
  clear hnc hcm
  go_enter Try.func121, Try.ntmps121
  go_wp2
  go_loopw [1, 5] (fun kk i wr => ∃ j K : Nat, i = .int .i64 (j : Int) ∧ kk = .int .i64 (K : Int) ∧ Hid (K = k0 + (PT.planS PT.tstr w (.slice a j cap)).length) ∧ j ≤ n ∧ Below w.heap.size w wr) (fun _ i _ => n - (intOf i).toNat)
  case atStart => exact ⟨0, k0, rfl, rfl, Lib.hid (by rw [PT.planS_zero]; rfl), Nat.zero_le _, Below.refl _ _⟩
  case round =>
    obtain ⟨j, K, rfl, rfl, HK, hj, hb⟩ := hrel
    by_cases hlt : j < n
    · have hlt2 : (j : Int) < (n : Int) := by omega
      obtain ⟨b, o, rfl, hbw, hLe, hc⟩ := R.out (by omega)
      have hKK := HK.out
      replace hKK : K = k0 + ((PT.rows PT.tstr j).plan w b o).length := hKK
      have hrl := PT.rows_len_le PT.tstr w b o hlt
      have hA := hc j hlt
      rw [← hKK] at hA
      obtain ⟨Lj, hLj⟩ : ∃ Lj, (PT.tstr.plan w b (o + j * PT.tstr.size)).length = Lj := ⟨_, rfl⟩
      rw [hLj] at hA hrl
      have HN : Hid (∀ K2, K2 = K + Lj → K2 = k0 + (PT.planS PT.tstr w (.slice (some ⟨b, o, none⟩) (j + 1) cap)).length) := Lib.hid fun K2 hk => by
        show K2 = k0 + ((PT.rows PT.tstr (j + 1)).plan w b o).length
        rw [PT.rows_snoc, List.length_append, hLj]; omega
      have hKj : K + Lj ≤ 1073741824 := by have := HL.out; omega
      obtain ⟨g, ok, hnd, hbl, hmk, hlen⟩ := hA.below hb
      clear hA hc hLe hrl hLj hKK
      have hj1 : o + j * PT.tstr.size = o + j := by rw [show PT.tstr.size = 1 from rfl, Nat.mul_one]
      rw [hj1] at ok hmk hlen
      obtain ⟨⟨uv0, d0⟩, rfl⟩ := ok
      replace d0 : wr.cell? ⟨b, o + j, none⟩ = some uv0 := d0
      replace hmk : Marked wr ([(⟨b, o + j, none⟩, MK.str)] : List (Addr × MK)) K := hmk
      replace hlen : ([(⟨b, o + j, none⟩, MK.str)] : List (Addr × MK)).length = Lj := hlen
      simp only [List.length_append, List.length_cons, List.length_nil] at hlen
      have e0 : wr.cell? ⟨b, o + j, none⟩ = some (.string (markB K)) := (hmk).one
      have hKt : K + 1 ≤ 1073741824 := by omega
      have hK0 : 0 < K := by have := HK.out; omega
      have hK0I : (0 : Int) ≤ (K : Int) := by omega
      have hgl : b < wr.heap.size := hbl
      have HT : Hid ((K + 1) = K + Lj) := Lib.hid (by omega)
      have C0 : Hid (∀ W, Calls Try.prog 104 #[.int .i64 ((K : Int))] W fun e w' => e = .returned (.string (markB K)) ∧ Below W.heap.size W w') :=
        Lib.hid fun W => by rw [show ((K : Int)) = ((K : Nat) : Int) from by omega]; exact markText_any K (by omega) (by omega) W
      clear hmk hlen hnd d0
      generalize markB K = s0 at *
      go_wp2_with fail
      have hx2 := fun (u : World) (b o : Nat) (h : b < wr.heap.size) => ext_cell wr u b o h
      refine wp_region_ext (by kernel_rfl) (by kernel_rfl) wr.heap.size ?_
      repeat (any_goals (go_big_quiet_step ((go_at_call 104; exact calls_ext (by first | (simp; done) | omega | (simp; omega)) (C0.out _)))))
      refine wpQuiet_nil ?_
      intro w1 k1
      clear hx2
      clear e0
      replace hgl : b < w1.heap.size := by have := k1.size; omega
      replace hb : Below w.heap.size w w1 := below_after k1 hb
      clear k1
      go_wp2
      go_roundw
      case rel => exact ⟨j + 1, (K + 1), by go_num, by go_num, Lib.hid (HN.out _ HT.out), by omega, hb⟩
      case measure => simp [intOf]; omega
    · have hlt2 : (n : Int) ≤ (j : Int) := by omega
      obtain rfl : j = n := by omega
      go_wp2
      go_ret
      refine ⟨ret_int ?_, hb⟩
      rw [HK.out]
      by_cases hj0 : j = 0
      · subst hj0
        rw [PT.planS_zero, HZ.out rfl]; rfl
      · obtain ⟨b, o, rfl, _, hLe, _⟩ := R.out (by omega)
        rw [hLe]; rfl

end Go.Proofs.Ytogdbjalgledpaa


/- laws.markWriteS, laws.heldWriteS. Printed by mkmark.py. -/
namespace Go.Proofs.Ytogdbjalgledpaa
open Go.RowKit

set_option maxRecDepth 100000 in
set_option maxHeartbeats 1600000 in
/-- laws.markWriteS -/
theorem markWriteS_p (k0 : Nat) (h0 : 0 < k0) (v : Value) (fp : List Nat) (w : World) (h : PT.okS PT.twrite w v fp) (hm : Mine w 0 fp) (hL : k0 + (PT.planS PT.twrite w v).length ≤ 1073741824) :
    Calls Try.prog 66 #[v, .int .i64 (k0 : Int)] w fun e w' => e = .returned (.int .i64 ((k0 + (PT.planS PT.twrite w v).length : Nat) : Int)) ∧ Stored w w' (PT.planS PT.twrite w v) k0 := by
  obtain ⟨a, n, cap, rfl, hnc, hcm, r⟩ := PT.okS_form h hm
  have R := Lib.hid r
  have HL := Lib.hid hL
  clear r hL h hm
  have hnI : (n : Int) ≤ 9223372036854775807 := by unfold maxLen at hcm; omega
  clear hnc hcm
  go_enter Try.func66, Try.ntmps66
  go_wp2
  go_loopw [1, 5] (fun kk i wr => ∃ j K : Nat, i = .int .i64 (j : Int) ∧ kk = .int .i64 (K : Int) ∧ Hid (K = k0 + (PT.planS PT.twrite w (.slice a j cap)).length) ∧ j ≤ n ∧ Hid (Stored w wr (PT.planS PT.twrite w (.slice a j cap)) k0)) (fun _ i _ => n - (intOf i).toNat)
  case atStart => exact ⟨0, k0, rfl, rfl, Lib.hid (by rw [PT.planS_zero]; rfl), Nat.zero_le _, Lib.hid (by rw [PT.planS_zero]; exact stored_refl _ _)⟩
  case round =>
    obtain ⟨j, K, rfl, rfl, HK, hj, HS⟩ := hrel
    by_cases hlt : j < n
    · have hlt2 : (j : Int) < (n : Int) := by omega
      obtain ⟨b, o, f, rfl, hb, hok, hmf⟩ := R.out (by omega)
      obtain ⟨g, ok, mine, hpl⟩ := round_open hok hb hmf hlt HS.out
      have hrl := PT.rows_len_le PT.twrite w b o hlt
      obtain ⟨f0, f0r, rfl, ⟨⟨uv0, d0⟩, rfl⟩, ⟨f1, f1r, rfl, ⟨⟨uv1, d1⟩, rfl⟩, ⟨⟨uv2, d2⟩, rfl⟩⟩⟩ := ok
      replace d0 : wr.cell? ⟨b, o + j * 3, none⟩ = some uv0 := d0
      replace d1 : wr.cell? ⟨b, o + j * 3 + 1, none⟩ = some uv1 := d1
      replace d2 : wr.cell? ⟨b, o + j * 3 + 2, none⟩ = some uv2 := d2
      try simp only [List.nil_append, List.append_nil] at mine
      have hQ : ([] : List (Addr × MK)) ++ [(⟨b, o + j * 3, none⟩, MK.str)] ++ [(⟨b, o + j * 3 + 1, none⟩, MK.str)] ++ [(⟨b, o + j * 3 + 2, none⟩, MK.bool)] = PT.twrite.plan w b (o + j * PT.twrite.size) := by rw [← hpl]; rfl
      have hql : (PT.twrite.plan w b (o + j * PT.twrite.size)).length = 3 := by rw [← hQ]; simp only [List.length_append, List.length_cons, List.length_nil] <;> omega
      have HR : Hid (∀ K2 w2, Stored wr w2 (([] : List (Addr × MK)) ++ [(⟨b, o + j * 3, none⟩, MK.str)] ++ [(⟨b, o + j * 3 + 1, none⟩, MK.str)] ++ [(⟨b, o + j * 3 + 2, none⟩, MK.bool)]) K → K2 = K + (3) → K2 = k0 + (PT.planS PT.twrite w (.slice (some ⟨b, o, none⟩) (j + 1) cap)).length ∧ Stored w w2 (PT.planS PT.twrite w (.slice (some ⟨b, o, none⟩) (j + 1) cap)) k0) := Lib.hid fun K2 w2 hs hk => by
        have hKK := HK.out
        replace hKK : K = k0 + ((PT.rows PT.twrite j).plan w b o).length := hKK
        refine ⟨?_, round_close hok hmf hlt HS.out (hKK ▸ hs) hQ⟩
        show K2 = k0 + ((PT.rows PT.twrite (j + 1)).plan w b o).length
        rw [PT.rows_snoc, List.length_append, hql]; omega
      have hKb : (K : Int) + ((3 : Nat) : Int) ≤ 1073741824 := by
        have h1 := HK.out; replace h1 : K = k0 + ((PT.rows PT.twrite j).plan w b o).length := h1
        have h2 := HL.out; replace h2 : k0 + ((PT.rows PT.twrite n).plan w b o).length ≤ 1073741824 := h2
        omega
      have hK0 : 0 < K := by have := HK.out; omega
      have hK0I : (0 : Int) ≤ (K : Int) := by omega
      have fr := mine.free b List.mem_cons_self
      have z0 := fr (o + j * 3)
      have z1 := fr (o + j * 3 + 1)
      have z2 := fr (o + j * 3 + 2)
      have HF := Lib.hid fr
      clear hql hQ hpl hrl hok hmf fr mine
      have S0 := Lib.hid (stored_refl wr K)
      have D0 := Lib.hid d0
      have D1 := Lib.hid d1
      have D2 := Lib.hid d2
      have C0 : Hid (∀ W, Calls Try.prog 104 #[.int .i64 ((K : Int))] W fun e w' => e = .returned (.string (markB K)) ∧ Below W.heap.size W w') :=
        Lib.hid fun W => by rw [show ((K : Int)) = ((K : Nat) : Int) from by omega]; exact markText_any K (by omega) (by omega) W
      go_wp2_with fail
      refine (C0.out _).mono ?_
      rintro e w1 ⟨rfl, k1⟩
      have T0 := Lib.hid (S0.out.trans (stored_below _ k1) (fun _ _ h => by cases h))
      rw [List.append_nil] at T0
      clear d0 d1 d2
      clear z0 z1 z2
      have d0 := T0.out.at D0.out (notIn_nil _)
      have z0 := T0.out.fro D0.out (HF.out _)
      have d1 := T0.out.at D1.out (notIn_nil _)
      have z1 := T0.out.fro D1.out (HF.out _)
      have d2 := T0.out.at D2.out (notIn_nil _)
      have z2 := T0.out.fro D2.out (HF.out _)
      have S1 : Hid (Stored wr (w1.setCell ⟨b, o + j * 3, none⟩ (.string (markB K))) (([] : List (Addr × MK)) ++ [(⟨b, o + j * 3, none⟩, MK.str)]) K) := Lib.hid (Stored.put (n := K) .str S0.out k1 D0.out (notIn_nil _) (by simp only [List.length_append, List.length_cons, List.length_nil] <;> (omega)))
      clear k1
      have C1 : Hid (∀ W, Calls Try.prog 104 #[.int .i64 ((K : Int) + 1)] W fun e w' => e = .returned (.string (markB (K + 1))) ∧ Below W.heap.size W w') :=
        Lib.hid fun W => by rw [show ((K : Int) + 1) = (((K + 1) : Nat) : Int) from by omega]; exact markText_any (K + 1) (by omega) (by omega) W
      go_wp2_with fail
      refine (C1.out _).mono ?_
      rintro e w2 ⟨rfl, k2⟩
      have T1 := Lib.hid (S1.out.trans (stored_below _ k2) (fun _ _ h => by cases h))
      rw [List.append_nil] at T1
      clear d0 d1 d2
      clear z0 z1 z2
      have d1 := T1.out.at D1.out (notIn_snoc (notIn_nil _) (fun e => by injection e; omega))
      have z1 := T1.out.fro D1.out (HF.out _)
      have d2 := T1.out.at D2.out (notIn_snoc (notIn_nil _) (fun e => by injection e; omega))
      have z2 := T1.out.fro D2.out (HF.out _)
      have S2 : Hid (Stored wr (w2.setCell ⟨b, o + j * 3 + 1, none⟩ (.string (markB (K + 1)))) (([] : List (Addr × MK)) ++ [(⟨b, o + j * 3, none⟩, MK.str)] ++ [(⟨b, o + j * 3 + 1, none⟩, MK.str)]) K) := Lib.hid (Stored.put (n := (K + 1)) .str S1.out k2 D1.out (notIn_snoc (notIn_nil _) (fun e => by injection e; omega)) (by simp only [List.length_append, List.length_cons, List.length_nil] <;> (omega)))
      clear k2
      have hg2 : ((((K : Int) + 1 + 1) % 3) == 0) = goneK (K + 2) := by unfold goneK; rw [show ((K : Int) + 1 + 1) = (((K + 2) : Nat) : Int) from by omega, Bool.eq_iff_iff, beq_iff_eq, decide_eq_true_iff]
      have S3 : Hid (Stored wr ((w2.setCell ⟨b, o + j * 3 + 1, none⟩ (.string (markB (K + 1)))).setCell ⟨b, o + j * 3 + 2, none⟩ (.bool (goneK (K + 2)))) (([] : List (Addr × MK)) ++ [(⟨b, o + j * 3, none⟩, MK.str)] ++ [(⟨b, o + j * 3 + 1, none⟩, MK.str)] ++ [(⟨b, o + j * 3 + 2, none⟩, MK.bool)]) K) := Lib.hid (Stored.put (n := (K + 2)) .bool S2.out (Below.refl _ _) D2.out (notIn_snoc (notIn_snoc (notIn_nil _) (fun e => by injection e; omega)) (fun e => by injection e; omega)) (by simp only [List.length_append, List.length_cons, List.length_nil] <;> (omega)))
      obtain ⟨hE1, hE2⟩ := HR.out (K + 3) _ S3.out (by  omega)
      have HE1 := Lib.hid hE1
      have HE2 := Lib.hid hE2
      clear hE1 hE2
      go_wp2
      go_roundw
      case rel => exact ⟨j + 1, (K + 3), by go_num, by go_num, HE1, by omega, HE2⟩
      case measure => simp [intOf]; omega
    · have hlt2 : (n : Int) ≤ (j : Int) := by omega
      obtain rfl : j = n := by omega
      go_wp2
      go_ret
      exact ⟨ret_int (by rw [HK.out]), HS.out⟩

set_option maxRecDepth 100000 in
set_option maxHeartbeats 1600000 in
/-- laws.heldWriteS -/
theorem heldWriteS_p (k0 : Nat) (h0 : 0 < k0) (v : Value) (L0 : Nat) (w : World) (h : HeldS PT.twrite w v k0 L0) (hL : k0 + L0 ≤ 1073741824) :
    Calls Try.prog 122 #[v, .int .i64 (k0 : Int)] w fun e w' => e = .returned (.int .i64 ((k0 + L0 : Nat) : Int)) ∧ Below w.heap.size w w' := by
  obtain ⟨a, n, cap, rfl, hnc, hcm, hz, r⟩ := h.form
  have R := Lib.hid r
  have HL := Lib.hid hL
  have HZ := Lib.hid hz
  clear r hL h hz
  have hnI : (n : Int) ≤ 9223372036854775807 := by unfold maxLen at hcm; omega
  clear hnc hcm
  go_enter Try.func122, Try.ntmps122
  go_wp2
  go_loopw [1, 5] (fun kk i wr => ∃ j K : Nat, i = .int .i64 (j : Int) ∧ kk = .int .i64 (K : Int) ∧ Hid (K = k0 + (PT.planS PT.twrite w (.slice a j cap)).length) ∧ j ≤ n ∧ Below w.heap.size w wr) (fun _ i _ => n - (intOf i).toNat)
  case atStart => exact ⟨0, k0, rfl, rfl, Lib.hid (by rw [PT.planS_zero]; rfl), Nat.zero_le _, Below.refl _ _⟩
  case round =>
    obtain ⟨j, K, rfl, rfl, HK, hj, hb⟩ := hrel
    by_cases hlt : j < n
    · have hlt2 : (j : Int) < (n : Int) := by omega
      obtain ⟨b, o, rfl, hbw, hLe, hc⟩ := R.out (by omega)
      have hKK := HK.out
      replace hKK : K = k0 + ((PT.rows PT.twrite j).plan w b o).length := hKK
      have hrl := PT.rows_len_le PT.twrite w b o hlt
      have hA := hc j hlt
      rw [← hKK] at hA
      obtain ⟨Lj, hLj⟩ : ∃ Lj, (PT.twrite.plan w b (o + j * PT.twrite.size)).length = Lj := ⟨_, rfl⟩
      rw [hLj] at hA hrl
      have HN : Hid (∀ K2, K2 = K + Lj → K2 = k0 + (PT.planS PT.twrite w (.slice (some ⟨b, o, none⟩) (j + 1) cap)).length) := Lib.hid fun K2 hk => by
        show K2 = k0 + ((PT.rows PT.twrite (j + 1)).plan w b o).length
        rw [PT.rows_snoc, List.length_append, hLj]; omega
      have hKj : K + Lj ≤ 1073741824 := by have := HL.out; omega
      obtain ⟨g, ok, hnd, hbl, hmk, hlen⟩ := hA.below hb
      clear hA hc hLe hrl hLj hKK
      obtain ⟨f0, f0r, rfl, ⟨⟨uv0, d0⟩, rfl⟩, ⟨f1, f1r, rfl, ⟨⟨uv1, d1⟩, rfl⟩, ⟨⟨uv2, d2⟩, rfl⟩⟩⟩ := ok
      replace d0 : wr.cell? ⟨b, o + j * 3, none⟩ = some uv0 := d0
      replace d1 : wr.cell? ⟨b, o + j * 3 + 1, none⟩ = some uv1 := d1
      replace d2 : wr.cell? ⟨b, o + j * 3 + 2, none⟩ = some uv2 := d2
      replace hmk : Marked wr ([(⟨b, o + j * 3, none⟩, MK.str)] ++ ([(⟨b, o + j * 3 + 1, none⟩, MK.str)] ++ ([(⟨b, o + j * 3 + 2, none⟩, MK.bool)])) : List (Addr × MK)) K := hmk
      replace hlen : ([(⟨b, o + j * 3, none⟩, MK.str)] ++ ([(⟨b, o + j * 3 + 1, none⟩, MK.str)] ++ ([(⟨b, o + j * 3 + 2, none⟩, MK.bool)])) : List (Addr × MK)).length = Lj := hlen
      simp only [List.length_append, List.length_cons, List.length_nil] at hlen
      have e0 : wr.cell? ⟨b, o + j * 3, none⟩ = some (.string (markB K)) := (hmk.left).one
      have q0 : Marked wr _ (K + 1) := hmk.right
      have e1 : wr.cell? ⟨b, o + j * 3 + 1, none⟩ = some (.string (markB (K + 1))) := (q0.left).one
      have q1 : Marked wr _ (K + 2) := q0.right
      have e2 : wr.cell? ⟨b, o + j * 3 + 2, none⟩ = some (.bool (goneK (K + 2))) := (q1).one
      have hKt : K + 3 ≤ 1073741824 := by omega
      have hK0 : 0 < K := by have := HK.out; omega
      have hK0I : (0 : Int) ≤ (K : Int) := by omega
      have hgl : b < wr.heap.size := hbl
      have HT : Hid ((K + 3) = K + Lj) := Lib.hid (by omega)
      have C0 : Hid (∀ W, Calls Try.prog 104 #[.int .i64 ((K : Int))] W fun e w' => e = .returned (.string (markB K)) ∧ Below W.heap.size W w') :=
        Lib.hid fun W => by rw [show ((K : Int)) = ((K : Nat) : Int) from by omega]; exact markText_any K (by omega) (by omega) W
      have C1 : Hid (∀ W, Calls Try.prog 104 #[.int .i64 ((K : Int) + 1)] W fun e w' => e = .returned (.string (markB (K + 1))) ∧ Below W.heap.size W w') :=
        Lib.hid fun W => by rw [show ((K : Int) + 1) = (((K + 1) : Nat) : Int) from by omega]; exact markText_any (K + 1) (by omega) (by omega) W
      have hg2 : ((((K : Int) + 1 + 1) % 3) == 0) = goneK (K + 2) := by unfold goneK; rw [show ((K : Int) + 1 + 1) = (((K + 2) : Nat) : Int) from by omega, Bool.eq_iff_iff, beq_iff_eq, decide_eq_true_iff]
      clear hmk hlen hnd q0 q1 d0 d1 d2
      generalize markB K = s0 at *
      generalize markB (K + 1) = s1 at *
      generalize goneK (K + 2) = gb2 at *
      have nb2 : (gb2 != gb2) = false := by simp
      go_wp2_with fail
      have hx2 := fun (u : World) (b o : Nat) (h : b < wr.heap.size) => ext_cell wr u b o h
      refine wp_region_ext (by kernel_rfl) (by kernel_rfl) wr.heap.size ?_
      repeat (any_goals (go_big_quiet_step ((go_at_call 104; exact calls_ext (by first | (simp; done) | omega | (simp; omega)) (C0.out _)))))
      refine wpQuiet_nil ?_
      intro w1 k1
      clear hx2
      replace e1 := cell_step k1 e1
      replace e2 := cell_step k1 e2
      clear e0
      replace hgl : b < w1.heap.size := by have := k1.size; omega
      replace hb : Below w.heap.size w w1 := below_after k1 hb
      clear k1
      go_wp2_with fail
      have hx2 := fun (u : World) (b o : Nat) (h : b < w1.heap.size) => ext_cell w1 u b o h
      refine wp_region_ext (by kernel_rfl) (by kernel_rfl) w1.heap.size ?_
      repeat (any_goals (go_big_quiet_step ((go_at_call 104; exact calls_ext (by first | (simp; done) | omega | (simp; omega)) (C1.out _)))))
      refine wpQuiet_nil ?_
      intro w2 k2
      clear hx2
      replace e2 := cell_step k2 e2
      clear e1
      replace hgl : b < w2.heap.size := by have := k2.size; omega
      replace hb : Below w.heap.size w w2 := below_after k2 hb
      clear k2
      go_wp2
      go_roundw
      case rel => exact ⟨j + 1, (K + 3), by go_num, by go_num, Lib.hid (HN.out _ HT.out), by omega, hb⟩
      case measure => simp [intOf]; omega
    · have hlt2 : (n : Int) ≤ (j : Int) := by omega
      obtain rfl : j = n := by omega
      go_wp2
      go_ret
      refine ⟨ret_int ?_, hb⟩
      rw [HK.out]
      by_cases hj0 : j = 0
      · subst hj0
        rw [PT.planS_zero, HZ.out rfl]; rfl
      · obtain ⟨b, o, rfl, _, hLe, _⟩ := R.out (by omega)
        rw [hLe]; rfl

end Go.Proofs.Ytogdbjalgledpaa


/- laws.markRecS, laws.heldRecS. Printed by mkmark.py. -/
namespace Go.Proofs.Ytogdbjalgledpaa
open Go.RowKit

end Go.Proofs.Ytogdbjalgledpaa


/- laws.markEntryS, laws.heldEntryS. Printed by mkmark.py. -/
namespace Go.Proofs.Ytogdbjalgledpaa
open Go.RowKit

set_option maxRecDepth 100000 in
set_option maxHeartbeats 1600000 in
/-- laws.markEntryS -/
theorem markEntryS_p (k0 : Nat) (h0 : 0 < k0) (v : Value) (fp : List Nat) (w : World) (h : PT.okS PT.tentry w v fp) (hm : Mine w 0 fp) (hL : k0 + (PT.planS PT.tentry w v).length ≤ 1073741824) :
    Calls Try.prog 92 #[v, .int .i64 (k0 : Int)] w fun e w' => e = .returned (.int .i64 ((k0 + (PT.planS PT.tentry w v).length : Nat) : Int)) ∧ Stored w w' (PT.planS PT.tentry w v) k0 := by
  obtain ⟨a, n, cap, rfl, hnc, hcm, r⟩ := PT.okS_form h hm
  have R := Lib.hid r
  have HL := Lib.hid hL
  clear r hL h hm
  have hnI : (n : Int) ≤ 9223372036854775807 := by unfold maxLen at hcm; omega
  clear hnc hcm
  go_enter Try.func92, Try.ntmps92
  go_wp2
  go_loopw [1, 5] (fun kk i wr => ∃ j K : Nat, i = .int .i64 (j : Int) ∧ kk = .int .i64 (K : Int) ∧ Hid (K = k0 + (PT.planS PT.tentry w (.slice a j cap)).length) ∧ j ≤ n ∧ Hid (Stored w wr (PT.planS PT.tentry w (.slice a j cap)) k0)) (fun _ i _ => n - (intOf i).toNat)
  case atStart => exact ⟨0, k0, rfl, rfl, Lib.hid (by rw [PT.planS_zero]; rfl), Nat.zero_le _, Lib.hid (by rw [PT.planS_zero]; exact stored_refl _ _)⟩
  case round =>
    obtain ⟨j, K, rfl, rfl, HK, hj, HS⟩ := hrel
    by_cases hlt : j < n
    · have hlt2 : (j : Int) < (n : Int) := by omega
      obtain ⟨b, o, f, rfl, hb, hok, hmf⟩ := R.out (by omega)
      obtain ⟨g, ok, mine, hpl⟩ := round_open hok hb hmf hlt HS.out
      have hrl := PT.rows_len_le PT.tentry w b o hlt
      obtain ⟨f0, f0r, rfl, ⟨⟨uv0, d0⟩, rfl⟩, ⟨f1, f1r, rfl, ⟨⟨uv1, d1⟩, rfl⟩, ⟨f2, f2r, rfl, ⟨⟨uv2, d2⟩, rfl⟩, ⟨f3, f3r, rfl, ⟨⟨uv3, d3⟩, rfl⟩, ⟨f4, f4r, rfl, ⟨⟨uv4, d4⟩, rfl⟩, ⟨f5, f5r, rfl, ⟨uv5, d5, r5⟩, ⟨f6, f6r, rfl, ⟨uv6, d6, r6⟩, ⟨⟨uv7, d7⟩, rfl⟩⟩⟩⟩⟩⟩⟩⟩ := ok
      replace d0 : wr.cell? ⟨b, o + j * 8, none⟩ = some uv0 := d0
      replace d1 : wr.cell? ⟨b, o + j * 8 + 1, none⟩ = some uv1 := d1
      replace d2 : wr.cell? ⟨b, o + j * 8 + 2, none⟩ = some uv2 := d2
      replace d3 : wr.cell? ⟨b, o + j * 8 + 3, none⟩ = some uv3 := d3
      replace d4 : wr.cell? ⟨b, o + j * 8 + 4, none⟩ = some uv4 := d4
      replace d5 : wr.cell? ⟨b, o + j * 8 + 5, none⟩ = some uv5 := d5
      replace d6 : wr.cell? ⟨b, o + j * 8 + 6, none⟩ = some uv6 := d6
      replace d7 : wr.cell? ⟨b, o + j * 8 + 7, none⟩ = some uv7 := d7
      try simp only [List.nil_append, List.append_nil] at mine
      obtain ⟨m5, m6, nb5, nb6, apart⟩ := mine.parts
      obtain ⟨L5, hL5⟩ : ∃ L, (PT.planS PT.tstr wr uv5).length = L := ⟨_, rfl⟩
      have hap5 := PT.arr_plan (p := PT.tstr) d5
      obtain ⟨L6, hL6⟩ : ∃ L, (PT.planS PT.twrite wr uv6).length = L := ⟨_, rfl⟩
      have hap6 := PT.arr_plan (p := PT.twrite) d6
      have hQ : ([] : List (Addr × MK)) ++ [(⟨b, o + j * 8, none⟩, MK.int)] ++ [(⟨b, o + j * 8 + 1, none⟩, MK.int)] ++ [(⟨b, o + j * 8 + 2, none⟩, MK.int)] ++ [(⟨b, o + j * 8 + 3, none⟩, MK.int)] ++ [(⟨b, o + j * 8 + 4, none⟩, MK.int)] ++ PT.planS PT.tstr wr uv5 ++ PT.planS PT.twrite wr uv6 ++ [(⟨b, o + j * 8 + 7, none⟩, MK.bool)] = PT.tentry.plan w b (o + j * PT.tentry.size) := by
        rw [← hpl]
        show _ = [(⟨b, o + j * 8, none⟩, MK.int)] ++ ([(⟨b, o + j * 8 + 1, none⟩, MK.int)] ++ ([(⟨b, o + j * 8 + 2, none⟩, MK.int)] ++ ([(⟨b, o + j * 8 + 3, none⟩, MK.int)] ++ ([(⟨b, o + j * 8 + 4, none⟩, MK.int)] ++ ((PT.arr PT.tstr).plan wr b (o + j * 8 + 5) ++ ((PT.arr PT.twrite).plan wr b (o + j * 8 + 6) ++ ([(⟨b, o + j * 8 + 7, none⟩, MK.bool)])))))))
        rw [hap5, hap6]
        simp only [List.nil_append, List.append_assoc, List.cons_append]
      have hql : (PT.tentry.plan w b (o + j * PT.tentry.size)).length = 6 + L5 + L6 := by rw [← hQ]; simp only [List.length_append, List.length_cons, List.length_nil, hL5, hL6] <;> omega
      have HR : Hid (∀ K2 w2, Stored wr w2 (([] : List (Addr × MK)) ++ [(⟨b, o + j * 8, none⟩, MK.int)] ++ [(⟨b, o + j * 8 + 1, none⟩, MK.int)] ++ [(⟨b, o + j * 8 + 2, none⟩, MK.int)] ++ [(⟨b, o + j * 8 + 3, none⟩, MK.int)] ++ [(⟨b, o + j * 8 + 4, none⟩, MK.int)] ++ PT.planS PT.tstr wr uv5 ++ PT.planS PT.twrite wr uv6 ++ [(⟨b, o + j * 8 + 7, none⟩, MK.bool)]) K → K2 = K + (6 + L5 + L6) → K2 = k0 + (PT.planS PT.tentry w (.slice (some ⟨b, o, none⟩) (j + 1) cap)).length ∧ Stored w w2 (PT.planS PT.tentry w (.slice (some ⟨b, o, none⟩) (j + 1) cap)) k0) := Lib.hid fun K2 w2 hs hk => by
        have hKK := HK.out
        replace hKK : K = k0 + ((PT.rows PT.tentry j).plan w b o).length := hKK
        refine ⟨?_, round_close hok hmf hlt HS.out (hKK ▸ hs) hQ⟩
        show K2 = k0 + ((PT.rows PT.tentry (j + 1)).plan w b o).length
        rw [PT.rows_snoc, List.length_append, hql]; omega
      have hKb : (K : Int) + ((6 + L5 + L6 : Nat) : Int) ≤ 1073741824 := by
        have h1 := HK.out; replace h1 : K = k0 + ((PT.rows PT.tentry j).plan w b o).length := h1
        have h2 := HL.out; replace h2 : k0 + ((PT.rows PT.tentry n).plan w b o).length ≤ 1073741824 := h2
        omega
      have hK0 : 0 < K := by have := HK.out; omega
      have hK0I : (0 : Int) ≤ (K : Int) := by omega
      have fr := mine.free b List.mem_cons_self
      have z0 := fr (o + j * 8)
      have z1 := fr (o + j * 8 + 1)
      have z2 := fr (o + j * 8 + 2)
      have z3 := fr (o + j * 8 + 3)
      have z4 := fr (o + j * 8 + 4)
      have z7 := fr (o + j * 8 + 7)
      have HF := Lib.hid fr
      have HO5 := Lib.hid r5
      have HM5 := Lib.hid m5
      have HLL5 := Lib.hid hL5
      have HO6 := Lib.hid r6
      have HM6 := Lib.hid m6
      have HLL6 := Lib.hid hL6
      clear hql hQ hpl hrl hok hmf fr mine r5 m5 hap5 hL5 r6 m6 hap6 hL6
      have S0 := Lib.hid (stored_refl wr K)
      have D0 := Lib.hid d0
      have D1 := Lib.hid d1
      have D2 := Lib.hid d2
      have D3 := Lib.hid d3
      have D4 := Lib.hid d4
      have D5 := Lib.hid d5
      have D6 := Lib.hid d6
      have D7 := Lib.hid d7
      have S1 : Hid (Stored wr (wr.setCell ⟨b, o + j * 8, none⟩ (.int .i64 ((K : Int)))) (([] : List (Addr × MK)) ++ [(⟨b, o + j * 8, none⟩, MK.int)]) K) := Lib.hid (Stored.put (n := K) .int S0.out (Below.refl _ _) D0.out (notIn_nil _) (by simp only [List.length_append, List.length_cons, List.length_nil] <;> (omega)))
      have S2 : Hid (Stored wr ((wr.setCell ⟨b, o + j * 8, none⟩ (.int .i64 ((K : Int)))).setCell ⟨b, o + j * 8 + 1, none⟩ (.int .i64 ((K : Int) + 1))) (([] : List (Addr × MK)) ++ [(⟨b, o + j * 8, none⟩, MK.int)] ++ [(⟨b, o + j * 8 + 1, none⟩, MK.int)]) K) := Lib.hid (Stored.put (n := (K + 1)) .int S1.out (Below.refl _ _) D1.out (notIn_snoc (notIn_nil _) (fun e => by injection e; omega)) (by simp only [List.length_append, List.length_cons, List.length_nil] <;> (omega)))
      have S3 : Hid (Stored wr (((wr.setCell ⟨b, o + j * 8, none⟩ (.int .i64 ((K : Int)))).setCell ⟨b, o + j * 8 + 1, none⟩ (.int .i64 ((K : Int) + 1))).setCell ⟨b, o + j * 8 + 2, none⟩ (.int .i64 ((K : Int) + 1 + 1))) (([] : List (Addr × MK)) ++ [(⟨b, o + j * 8, none⟩, MK.int)] ++ [(⟨b, o + j * 8 + 1, none⟩, MK.int)] ++ [(⟨b, o + j * 8 + 2, none⟩, MK.int)]) K) := Lib.hid (Stored.put (n := (K + 2)) .int S2.out (Below.refl _ _) D2.out (notIn_snoc (notIn_snoc (notIn_nil _) (fun e => by injection e; omega)) (fun e => by injection e; omega)) (by simp only [List.length_append, List.length_cons, List.length_nil] <;> (omega)))
      have S4 : Hid (Stored wr ((((wr.setCell ⟨b, o + j * 8, none⟩ (.int .i64 ((K : Int)))).setCell ⟨b, o + j * 8 + 1, none⟩ (.int .i64 ((K : Int) + 1))).setCell ⟨b, o + j * 8 + 2, none⟩ (.int .i64 ((K : Int) + 1 + 1))).setCell ⟨b, o + j * 8 + 3, none⟩ (.int .i64 ((K : Int) + 1 + 1 + 1))) (([] : List (Addr × MK)) ++ [(⟨b, o + j * 8, none⟩, MK.int)] ++ [(⟨b, o + j * 8 + 1, none⟩, MK.int)] ++ [(⟨b, o + j * 8 + 2, none⟩, MK.int)] ++ [(⟨b, o + j * 8 + 3, none⟩, MK.int)]) K) := Lib.hid (Stored.put (n := (K + 3)) .int S3.out (Below.refl _ _) D3.out (notIn_snoc (notIn_snoc (notIn_snoc (notIn_nil _) (fun e => by injection e; omega)) (fun e => by injection e; omega)) (fun e => by injection e; omega)) (by simp only [List.length_append, List.length_cons, List.length_nil] <;> (omega)))
      have S5 : Hid (Stored wr (((((wr.setCell ⟨b, o + j * 8, none⟩ (.int .i64 ((K : Int)))).setCell ⟨b, o + j * 8 + 1, none⟩ (.int .i64 ((K : Int) + 1))).setCell ⟨b, o + j * 8 + 2, none⟩ (.int .i64 ((K : Int) + 1 + 1))).setCell ⟨b, o + j * 8 + 3, none⟩ (.int .i64 ((K : Int) + 1 + 1 + 1))).setCell ⟨b, o + j * 8 + 4, none⟩ (.int .i64 ((K : Int) + 1 + 1 + 1 + 1))) (([] : List (Addr × MK)) ++ [(⟨b, o + j * 8, none⟩, MK.int)] ++ [(⟨b, o + j * 8 + 1, none⟩, MK.int)] ++ [(⟨b, o + j * 8 + 2, none⟩, MK.int)] ++ [(⟨b, o + j * 8 + 3, none⟩, MK.int)] ++ [(⟨b, o + j * 8 + 4, none⟩, MK.int)]) K) := Lib.hid (Stored.put (n := (K + 4)) .int S4.out (Below.refl _ _) D4.out (notIn_snoc (notIn_snoc (notIn_snoc (notIn_snoc (notIn_nil _) (fun e => by injection e; omega)) (fun e => by injection e; omega)) (fun e => by injection e; omega)) (fun e => by injection e; omega)) (by simp only [List.length_append, List.length_cons, List.length_nil] <;> (omega)))
      obtain ⟨so5, sp5, sm5⟩ := S5.out.sub HO5.out HM5.out (farAll_snoc (farAll_snoc (farAll_snoc (farAll_snoc (farAll_snoc (farAll_nil f5) nb5) nb5) nb5) nb5) nb5)
      have C5 := Lib.hid (markStringS_p (K + 5) (by omega) uv5 _ _ so5 sm5 (by rw [sp5, HLL5.out] <;> (omega)))
      rw [sp5, HLL5.out] at C5
      clear so5 sp5 sm5
      obtain ⟨K5, hK5⟩ : ∃ K5 : Nat, (K + 5) + L5 = K5 := ⟨_, rfl⟩
      rw [hK5] at C5
      rw [show (((K + 5) : Nat) : Int) = (K : Int) + 1 + 1 + 1 + 1 + 1 from by omega] at C5
      have HK5 := Lib.hid hK5
      have hk5b : (K5 : Int) = (K : Int) + 1 + 1 + 1 + 1 + 1 + (L5 : Int) := by omega
      have hk5n : (0 : Int) ≤ (K5 : Int) := by omega
      have hk5l : (K5 : Int) ≤ 1073741823 := by omega
      have HB5 := Lib.hid hk5b
      clear hK5 hk5b
      go_wp2_with fail
      refine C5.out.mono ?_
      rintro e w1 ⟨rfl, t5⟩
      have S6 : Hid (Stored wr w1 (([] : List (Addr × MK)) ++ [(⟨b, o + j * 8, none⟩, MK.int)] ++ [(⟨b, o + j * 8 + 1, none⟩, MK.int)] ++ [(⟨b, o + j * 8 + 2, none⟩, MK.int)] ++ [(⟨b, o + j * 8 + 3, none⟩, MK.int)] ++ [(⟨b, o + j * 8 + 4, none⟩, MK.int)] ++ PT.planS PT.tstr wr uv5) K) := Lib.hid (S5.out.call t5 (by simp only [List.length_append, List.length_cons, List.length_nil] <;> (omega)) (PT.planS_in HO5.out) (farAll_snoc (farAll_snoc (farAll_snoc (farAll_snoc (farAll_snoc (farAll_nil f5) nb5) nb5) nb5) nb5) nb5))
      clear t5 d0 d1 d2 d3 d4 d5 d6 d7
      clear z0 z1 z2 z3 z4 z7
      have d6 := S6.out.at D6.out (notIn_app (notIn_snoc (notIn_snoc (notIn_snoc (notIn_snoc (notIn_snoc (notIn_nil _) (fun e => by injection e; omega)) (fun e => by injection e; omega)) (fun e => by injection e; omega)) (fun e => by injection e; omega)) (fun e => by injection e; omega)) (PT.planS_in HO5.out) nb5)
      have d7 := S6.out.at D7.out (notIn_app (notIn_snoc (notIn_snoc (notIn_snoc (notIn_snoc (notIn_snoc (notIn_nil _) (fun e => by injection e; omega)) (fun e => by injection e; omega)) (fun e => by injection e; omega)) (fun e => by injection e; omega)) (fun e => by injection e; omega)) (PT.planS_in HO5.out) nb5)
      have z7 := S6.out.fro D7.out (HF.out _)
      obtain ⟨so6, sp6, sm6⟩ := S6.out.sub HO6.out HM6.out (farAll_app (farAll_snoc (farAll_snoc (farAll_snoc (farAll_snoc (farAll_snoc (farAll_nil f6) nb6) nb6) nb6) nb6) nb6) (PT.planS_in HO5.out) apart)
      have C6 := Lib.hid (markWriteS_p K5 (by have := HB5.out; omega) uv6 _ _ so6 sm6 (by rw [sp6, HLL6.out] <;> (have := HB5.out; omega)))
      rw [sp6, HLL6.out] at C6
      clear so6 sp6 sm6
      obtain ⟨K6, hK6⟩ : ∃ K6 : Nat, K5 + L6 = K6 := ⟨_, rfl⟩
      rw [hK6] at C6
      have HK6 := Lib.hid hK6
      have hk6b : (K6 : Int) = (K5 : Int) + (L6 : Int) := by omega
      have hk6n : (0 : Int) ≤ (K6 : Int) := by omega
      have hk6l : (K6 : Int) ≤ 1073741823 := by have := HB5.out; omega
      have HB6 := Lib.hid hk6b
      clear hK6 hk6b
      go_wp2_with fail
      refine C6.out.mono ?_
      rintro e w2 ⟨rfl, t6⟩
      have S7 : Hid (Stored wr w2 (([] : List (Addr × MK)) ++ [(⟨b, o + j * 8, none⟩, MK.int)] ++ [(⟨b, o + j * 8 + 1, none⟩, MK.int)] ++ [(⟨b, o + j * 8 + 2, none⟩, MK.int)] ++ [(⟨b, o + j * 8 + 3, none⟩, MK.int)] ++ [(⟨b, o + j * 8 + 4, none⟩, MK.int)] ++ PT.planS PT.tstr wr uv5 ++ PT.planS PT.twrite wr uv6) K) := Lib.hid (S6.out.call t6 (by simp only [List.length_append, List.length_cons, List.length_nil, HLL5.out] <;> (have := HB5.out; omega)) (PT.planS_in HO6.out) (farAll_app (farAll_snoc (farAll_snoc (farAll_snoc (farAll_snoc (farAll_snoc (farAll_nil f6) nb6) nb6) nb6) nb6) nb6) (PT.planS_in HO5.out) apart))
      clear t6 d6 d7
      clear z7
      have d7 := S7.out.at D7.out (notIn_app (notIn_app (notIn_snoc (notIn_snoc (notIn_snoc (notIn_snoc (notIn_snoc (notIn_nil _) (fun e => by injection e; omega)) (fun e => by injection e; omega)) (fun e => by injection e; omega)) (fun e => by injection e; omega)) (fun e => by injection e; omega)) (PT.planS_in HO5.out) nb5) (PT.planS_in HO6.out) nb6)
      have z7 := S7.out.fro D7.out (HF.out _)
      have hg7 : ((((K6 : Int)) % 3) == 0) = goneK K6 := by unfold goneK; rw [show ((K6 : Int)) = ((K6 : Nat) : Int) from by omega, Bool.eq_iff_iff, beq_iff_eq, decide_eq_true_iff]
      have S8 : Hid (Stored wr (w2.setCell ⟨b, o + j * 8 + 7, none⟩ (.bool (goneK K6))) (([] : List (Addr × MK)) ++ [(⟨b, o + j * 8, none⟩, MK.int)] ++ [(⟨b, o + j * 8 + 1, none⟩, MK.int)] ++ [(⟨b, o + j * 8 + 2, none⟩, MK.int)] ++ [(⟨b, o + j * 8 + 3, none⟩, MK.int)] ++ [(⟨b, o + j * 8 + 4, none⟩, MK.int)] ++ PT.planS PT.tstr wr uv5 ++ PT.planS PT.twrite wr uv6 ++ [(⟨b, o + j * 8 + 7, none⟩, MK.bool)]) K) := Lib.hid (Stored.put (n := K6) .bool S7.out (Below.refl _ _) D7.out (notIn_app (notIn_app (notIn_snoc (notIn_snoc (notIn_snoc (notIn_snoc (notIn_snoc (notIn_nil _) (fun e => by injection e; omega)) (fun e => by injection e; omega)) (fun e => by injection e; omega)) (fun e => by injection e; omega)) (fun e => by injection e; omega)) (PT.planS_in HO5.out) nb5) (PT.planS_in HO6.out) nb6) (by simp only [List.length_append, List.length_cons, List.length_nil, HLL5.out, HLL6.out] <;> (have := HB5.out; have := HB6.out; omega)))
      obtain ⟨hE1, hE2⟩ := HR.out (K6 + 1) _ S8.out (by have := HK5.out; have := HK6.out; omega)
      have HE1 := Lib.hid hE1
      have HE2 := Lib.hid hE2
      clear hE1 hE2
      go_wp2
      go_roundw
      case rel => exact ⟨j + 1, (K6 + 1), by go_num, by go_num, HE1, by omega, HE2⟩
      case measure => simp [intOf]; omega
    · have hlt2 : (n : Int) ≤ (j : Int) := by omega
      obtain rfl : j = n := by omega
      go_wp2
      go_ret
      exact ⟨ret_int (by rw [HK.out]), HS.out⟩

set_option maxRecDepth 100000 in
set_option maxHeartbeats 1600000 in
/-- laws.heldEntryS -/
theorem heldEntryS_p (k0 : Nat) (h0 : 0 < k0) (v : Value) (L0 : Nat) (w : World) (h : HeldS PT.tentry w v k0 L0) (hL : k0 + L0 ≤ 1073741824) :
    Calls Try.prog 93 #[v, .int .i64 (k0 : Int)] w fun e w' => e = .returned (.int .i64 ((k0 + L0 : Nat) : Int)) ∧ Below w.heap.size w w' := by
  obtain ⟨a, n, cap, rfl, hnc, hcm, hz, r⟩ := h.form
  have R := Lib.hid r
  have HL := Lib.hid hL
  have HZ := Lib.hid hz
  clear r hL h hz
  have hnI : (n : Int) ≤ 9223372036854775807 := by unfold maxLen at hcm; omega
  clear hnc hcm
  go_enter Try.func93, Try.ntmps93
  go_wp2
  go_loopw [1, 5] (fun kk i wr => ∃ j K : Nat, i = .int .i64 (j : Int) ∧ kk = .int .i64 (K : Int) ∧ Hid (K = k0 + (PT.planS PT.tentry w (.slice a j cap)).length) ∧ j ≤ n ∧ Below w.heap.size w wr) (fun _ i _ => n - (intOf i).toNat)
  case atStart => exact ⟨0, k0, rfl, rfl, Lib.hid (by rw [PT.planS_zero]; rfl), Nat.zero_le _, Below.refl _ _⟩
  case round =>
    obtain ⟨j, K, rfl, rfl, HK, hj, hb⟩ := hrel
    by_cases hlt : j < n
    · have hlt2 : (j : Int) < (n : Int) := by omega
      obtain ⟨b, o, rfl, hbw, hLe, hc⟩ := R.out (by omega)
      have hKK := HK.out
      replace hKK : K = k0 + ((PT.rows PT.tentry j).plan w b o).length := hKK
      have hrl := PT.rows_len_le PT.tentry w b o hlt
      have hA := hc j hlt
      rw [← hKK] at hA
      obtain ⟨Lj, hLj⟩ : ∃ Lj, (PT.tentry.plan w b (o + j * PT.tentry.size)).length = Lj := ⟨_, rfl⟩
      rw [hLj] at hA hrl
      have HN : Hid (∀ K2, K2 = K + Lj → K2 = k0 + (PT.planS PT.tentry w (.slice (some ⟨b, o, none⟩) (j + 1) cap)).length) := Lib.hid fun K2 hk => by
        show K2 = k0 + ((PT.rows PT.tentry (j + 1)).plan w b o).length
        rw [PT.rows_snoc, List.length_append, hLj]; omega
      have hKj : K + Lj ≤ 1073741824 := by have := HL.out; omega
      obtain ⟨g, ok, hnd, hbl, hmk, hlen⟩ := hA.below hb
      clear hA hc hLe hrl hLj hKK
      obtain ⟨f0, f0r, rfl, ⟨⟨uv0, d0⟩, rfl⟩, ⟨f1, f1r, rfl, ⟨⟨uv1, d1⟩, rfl⟩, ⟨f2, f2r, rfl, ⟨⟨uv2, d2⟩, rfl⟩, ⟨f3, f3r, rfl, ⟨⟨uv3, d3⟩, rfl⟩, ⟨f4, f4r, rfl, ⟨⟨uv4, d4⟩, rfl⟩, ⟨f5, f5r, rfl, ⟨uv5, d5, r5⟩, ⟨f6, f6r, rfl, ⟨uv6, d6, r6⟩, ⟨⟨uv7, d7⟩, rfl⟩⟩⟩⟩⟩⟩⟩⟩ := ok
      replace d0 : wr.cell? ⟨b, o + j * 8, none⟩ = some uv0 := d0
      replace d1 : wr.cell? ⟨b, o + j * 8 + 1, none⟩ = some uv1 := d1
      replace d2 : wr.cell? ⟨b, o + j * 8 + 2, none⟩ = some uv2 := d2
      replace d3 : wr.cell? ⟨b, o + j * 8 + 3, none⟩ = some uv3 := d3
      replace d4 : wr.cell? ⟨b, o + j * 8 + 4, none⟩ = some uv4 := d4
      replace d5 : wr.cell? ⟨b, o + j * 8 + 5, none⟩ = some uv5 := d5
      replace d6 : wr.cell? ⟨b, o + j * 8 + 6, none⟩ = some uv6 := d6
      replace d7 : wr.cell? ⟨b, o + j * 8 + 7, none⟩ = some uv7 := d7
      have hap5 := PT.arr_plan (p := PT.tstr) d5
      obtain ⟨L5, hL5⟩ : ∃ L, (PT.planS PT.tstr wr uv5).length = L := ⟨_, rfl⟩
      have hn5 : f5.Nodup := (List.nodup_cons.1 hnd).2.sublist (by simp)
      have hap6 := PT.arr_plan (p := PT.twrite) d6
      obtain ⟨L6, hL6⟩ : ∃ L, (PT.planS PT.twrite wr uv6).length = L := ⟨_, rfl⟩
      have hn6 : f6.Nodup := (List.nodup_cons.1 hnd).2.sublist (by simp)
      replace hmk : Marked wr ([(⟨b, o + j * 8, none⟩, MK.int)] ++ ([(⟨b, o + j * 8 + 1, none⟩, MK.int)] ++ ([(⟨b, o + j * 8 + 2, none⟩, MK.int)] ++ ([(⟨b, o + j * 8 + 3, none⟩, MK.int)] ++ ([(⟨b, o + j * 8 + 4, none⟩, MK.int)] ++ ((PT.arr PT.tstr).plan wr b (o + j * 8 + 5) ++ ((PT.arr PT.twrite).plan wr b (o + j * 8 + 6) ++ ([(⟨b, o + j * 8 + 7, none⟩, MK.bool)]))))))) : List (Addr × MK)) K := hmk
      replace hlen : ([(⟨b, o + j * 8, none⟩, MK.int)] ++ ([(⟨b, o + j * 8 + 1, none⟩, MK.int)] ++ ([(⟨b, o + j * 8 + 2, none⟩, MK.int)] ++ ([(⟨b, o + j * 8 + 3, none⟩, MK.int)] ++ ([(⟨b, o + j * 8 + 4, none⟩, MK.int)] ++ ((PT.arr PT.tstr).plan wr b (o + j * 8 + 5) ++ ((PT.arr PT.twrite).plan wr b (o + j * 8 + 6) ++ ([(⟨b, o + j * 8 + 7, none⟩, MK.bool)]))))))) : List (Addr × MK)).length = Lj := hlen
      rw [hap5, hap6] at hmk hlen
      simp only [List.length_append, List.length_cons, List.length_nil, hL5, hL6] at hlen
      have e0 : wr.cell? ⟨b, o + j * 8, none⟩ = some (.int .i64 ((K : Int))) := (hmk.left).one
      have q0 : Marked wr _ (K + 1) := hmk.right
      have e1 : wr.cell? ⟨b, o + j * 8 + 1, none⟩ = some (.int .i64 ((K : Int) + 1)) := (q0.left).one
      have q1 : Marked wr _ (K + 2) := q0.right
      have e2 : wr.cell? ⟨b, o + j * 8 + 2, none⟩ = some (.int .i64 ((K : Int) + 1 + 1)) := (q1.left).one
      have q2 : Marked wr _ (K + 3) := q1.right
      have e3 : wr.cell? ⟨b, o + j * 8 + 3, none⟩ = some (.int .i64 ((K : Int) + 1 + 1 + 1)) := (q2.left).one
      have q3 : Marked wr _ (K + 4) := q2.right
      have e4 : wr.cell? ⟨b, o + j * 8 + 4, none⟩ = some (.int .i64 ((K : Int) + 1 + 1 + 1 + 1)) := (q3.left).one
      have q4 : Marked wr _ (K + 5) := q3.right
      have g5 : HeldS PT.tstr wr uv5 (K + 5) L5 := ⟨_, r5, hn5, q4.left, hL5⟩
      obtain ⟨K5, hK5⟩ : ∃ K5 : Nat, (K + 5) + L5 = K5 := ⟨_, rfl⟩
      have q5 := q4.right
      rw [hL5, hK5] at q5
      have g6 : HeldS PT.twrite wr uv6 K5 L6 := ⟨_, r6, hn6, q5.left, hL6⟩
      obtain ⟨K6, hK6⟩ : ∃ K6 : Nat, K5 + L6 = K6 := ⟨_, rfl⟩
      have q6 := q5.right
      rw [hL6, hK6] at q6
      have e7 : wr.cell? ⟨b, o + j * 8 + 7, none⟩ = some (.bool (goneK K6)) := (q6).one
      have hk5n : (0 : Int) ≤ (K5 : Int) := by omega
      have hk5l : (K5 : Int) ≤ 1073741823 := by omega
      have HB5 : Hid ((K5 : Int) = (K : Int) + 1 + 1 + 1 + 1 + 1 + (L5 : Int)) := Lib.hid (by omega)
      have hk5p : (0 : Int) < (K5 : Int) := by omega
      have hk6n : (0 : Int) ≤ (K6 : Int) := by omega
      have hk6l : (K6 : Int) ≤ 1073741823 := by omega
      have HB6 : Hid ((K6 : Int) = (K5 : Int) + (L6 : Int)) := Lib.hid (by omega)
      have hk6p : (0 : Int) < (K6 : Int) := by omega
      have hKt : K + 6 ≤ 1073741824 := by omega
      have hK0 : 0 < K := by have := HK.out; omega
      have hK0I : (0 : Int) ≤ (K : Int) := by omega
      have hgl : b < wr.heap.size := hbl
      have HT : Hid ((K6 + 1) = K + Lj) := Lib.hid (by omega)
      have C5 : Hid (∀ W, HeldS PT.tstr W uv5 (K + 5) L5 → Calls Try.prog 121 #[uv5, .int .i64 ((K : Int) + 1 + 1 + 1 + 1 + 1)] W fun e w' => e = .returned (.int .i64 (K5 : Int)) ∧ Below W.heap.size W w') :=
        Lib.hid fun W hW => by rw [show ((K : Int) + 1 + 1 + 1 + 1 + 1) = (((K + 5) : Nat) : Int) from by omega, ← hK5]; exact heldStringS_p (K + 5) (by omega) uv5 L5 W hW (by omega)
      have C6 : Hid (∀ W, HeldS PT.twrite W uv6 K5 L6 → Calls Try.prog 122 #[uv6, .int .i64 ((K5 : Int))] W fun e w' => e = .returned (.int .i64 (K6 : Int)) ∧ Below W.heap.size W w') :=
        Lib.hid fun W hW => by rw [show ((K5 : Int)) = ((K5 : Nat) : Int) from by omega, ← hK6]; exact heldWriteS_p K5 (by have := HB5.out; omega) uv6 L6 W hW (by omega)
      have hg7 : ((((K6 : Int)) % 3) == 0) = goneK K6 := by unfold goneK; rw [show ((K6 : Int)) = ((K6 : Nat) : Int) from by omega, Bool.eq_iff_iff, beq_iff_eq, decide_eq_true_iff]
      clear hmk hlen hnd q0 q1 q2 q3 q4 q5 q6 hap5 hL5 hn5 r5 hK5 hap6 hL6 hn6 r6 hK6 d0 d1 d2 d3 d4 d7
      generalize goneK K6 = gb7 at *
      have nb7 : (gb7 != gb7) = false := by simp
      have G5 := Lib.hid g5
      clear g5
      have G6 := Lib.hid g6
      clear g6
      go_wp2_with fail
      refine (C5.out _ G5.out).mono ?_
      rintro e w1 ⟨rfl, k1⟩
      replace d6 := cell_step k1 d6
      replace G6 := Lib.hid (G6.out.below k1)
      replace e7 := cell_step k1 e7
      clear d5
      replace hgl : b < w1.heap.size := by have := k1.size; omega
      replace hb : Below w.heap.size w w1 := below_after k1 hb
      clear k1
      go_wp2_with fail
      refine (C6.out _ G6.out).mono ?_
      rintro e w2 ⟨rfl, k2⟩
      replace e7 := cell_step k2 e7
      clear d6
      replace hgl : b < w2.heap.size := by have := k2.size; omega
      replace hb : Below w.heap.size w w2 := below_after k2 hb
      clear k2
      go_wp2
      go_roundw
      case rel => exact ⟨j + 1, (K6 + 1), by go_num, by go_num, Lib.hid (HN.out _ HT.out), by omega, hb⟩
      case measure => simp [intOf]; omega
    · have hlt2 : (n : Int) ≤ (j : Int) := by omega
      obtain rfl : j = n := by omega
      go_wp2
      go_ret
      refine ⟨ret_int ?_, hb⟩
      rw [HK.out]
      by_cases hj0 : j = 0
      · subst hj0
        rw [PT.planS_zero, HZ.out rfl]; rfl
      · obtain ⟨b, o, rfl, _, hLe, _⟩ := R.out (by omega)
        rw [hLe]; rfl

end Go.Proofs.Ytogdbjalgledpaa


/- laws.markReplicaS, laws.heldReplicaS. Printed by mkmark.py. -/
namespace Go.Proofs.Ytogdbjalgledpaa
open Go.RowKit

set_option maxRecDepth 100000 in
set_option maxHeartbeats 1600000 in
/-- laws.markReplicaS -/
theorem markReplicaS_p (k0 : Nat) (h0 : 0 < k0) (v : Value) (fp : List Nat) (w : World) (h : PT.okS PT.treplica w v fp) (hm : Mine w 0 fp) (hL : k0 + (PT.planS PT.treplica w v).length ≤ 1073741824) :
    Calls Try.prog 51 #[v, .int .i64 (k0 : Int)] w fun e w' => e = .returned (.int .i64 ((k0 + (PT.planS PT.treplica w v).length : Nat) : Int)) ∧ Stored w w' (PT.planS PT.treplica w v) k0 := by
  obtain ⟨a, n, cap, rfl, hnc, hcm, r⟩ := PT.okS_form h hm
  have R := Lib.hid r
  have HL := Lib.hid hL
  clear r hL h hm
  have hnI : (n : Int) ≤ 9223372036854775807 := by unfold maxLen at hcm; omega
  clear hnc hcm
  go_enter Try.func51, Try.ntmps51
  go_wp2
  go_loopw [1, 5] (fun kk i wr => ∃ j K : Nat, i = .int .i64 (j : Int) ∧ kk = .int .i64 (K : Int) ∧ Hid (K = k0 + (PT.planS PT.treplica w (.slice a j cap)).length) ∧ j ≤ n ∧ Hid (Stored w wr (PT.planS PT.treplica w (.slice a j cap)) k0)) (fun _ i _ => n - (intOf i).toNat)
  case atStart => exact ⟨0, k0, rfl, rfl, Lib.hid (by rw [PT.planS_zero]; rfl), Nat.zero_le _, Lib.hid (by rw [PT.planS_zero]; exact stored_refl _ _)⟩
  case round =>
    obtain ⟨j, K, rfl, rfl, HK, hj, HS⟩ := hrel
    by_cases hlt : j < n
    · have hlt2 : (j : Int) < (n : Int) := by omega
      obtain ⟨b, o, f, rfl, hb, hok, hmf⟩ := R.out (by omega)
      obtain ⟨g, ok, mine, hpl⟩ := round_open hok hb hmf hlt HS.out
      have hrl := PT.rows_len_le PT.treplica w b o hlt
      obtain ⟨f0, f0r, rfl, ⟨⟨uv0, d0⟩, rfl⟩, ⟨f1, f1r, rfl, ⟨uv1, d1, r1⟩, ⟨⟨uv2, d2⟩, rfl⟩⟩⟩ := ok
      replace d0 : wr.cell? ⟨b, o + j * 3, none⟩ = some uv0 := d0
      replace d1 : wr.cell? ⟨b, o + j * 3 + 1, none⟩ = some uv1 := d1
      replace d2 : wr.cell? ⟨b, o + j * 3 + 2, none⟩ = some uv2 := d2
      try simp only [List.nil_append, List.append_nil] at mine
      obtain ⟨m1, nb1⟩ := mine.part
      obtain ⟨L1, hL1⟩ : ∃ L, (PT.planS PT.tentry wr uv1).length = L := ⟨_, rfl⟩
      have hap1 := PT.arr_plan (p := PT.tentry) d1
      have hQ : ([] : List (Addr × MK)) ++ [(⟨b, o + j * 3, none⟩, MK.bool)] ++ PT.planS PT.tentry wr uv1 ++ [(⟨b, o + j * 3 + 2, none⟩, MK.int)] = PT.treplica.plan w b (o + j * PT.treplica.size) := by
        rw [← hpl]
        show _ = [(⟨b, o + j * 3, none⟩, MK.bool)] ++ ((PT.arr PT.tentry).plan wr b (o + j * 3 + 1) ++ ([(⟨b, o + j * 3 + 2, none⟩, MK.int)]))
        rw [hap1]
        simp only [List.nil_append, List.append_assoc, List.cons_append]
      have hql : (PT.treplica.plan w b (o + j * PT.treplica.size)).length = 2 + L1 := by rw [← hQ]; simp only [List.length_append, List.length_cons, List.length_nil, hL1] <;> omega
      have HR : Hid (∀ K2 w2, Stored wr w2 (([] : List (Addr × MK)) ++ [(⟨b, o + j * 3, none⟩, MK.bool)] ++ PT.planS PT.tentry wr uv1 ++ [(⟨b, o + j * 3 + 2, none⟩, MK.int)]) K → K2 = K + (2 + L1) → K2 = k0 + (PT.planS PT.treplica w (.slice (some ⟨b, o, none⟩) (j + 1) cap)).length ∧ Stored w w2 (PT.planS PT.treplica w (.slice (some ⟨b, o, none⟩) (j + 1) cap)) k0) := Lib.hid fun K2 w2 hs hk => by
        have hKK := HK.out
        replace hKK : K = k0 + ((PT.rows PT.treplica j).plan w b o).length := hKK
        refine ⟨?_, round_close hok hmf hlt HS.out (hKK ▸ hs) hQ⟩
        show K2 = k0 + ((PT.rows PT.treplica (j + 1)).plan w b o).length
        rw [PT.rows_snoc, List.length_append, hql]; omega
      have hKb : (K : Int) + ((2 + L1 : Nat) : Int) ≤ 1073741824 := by
        have h1 := HK.out; replace h1 : K = k0 + ((PT.rows PT.treplica j).plan w b o).length := h1
        have h2 := HL.out; replace h2 : k0 + ((PT.rows PT.treplica n).plan w b o).length ≤ 1073741824 := h2
        omega
      have hK0 : 0 < K := by have := HK.out; omega
      have hK0I : (0 : Int) ≤ (K : Int) := by omega
      have fr := mine.free b List.mem_cons_self
      have z0 := fr (o + j * 3)
      have z2 := fr (o + j * 3 + 2)
      have HF := Lib.hid fr
      have HO1 := Lib.hid r1
      have HM1 := Lib.hid m1
      have HLL1 := Lib.hid hL1
      clear hql hQ hpl hrl hok hmf fr mine r1 m1 hap1 hL1
      have S0 := Lib.hid (stored_refl wr K)
      have D0 := Lib.hid d0
      have D1 := Lib.hid d1
      have D2 := Lib.hid d2
      have hg0 : ((((K : Int)) % 3) == 0) = goneK K := by unfold goneK; rw [show ((K : Int)) = ((K : Nat) : Int) from by omega, Bool.eq_iff_iff, beq_iff_eq, decide_eq_true_iff]
      have S1 : Hid (Stored wr (wr.setCell ⟨b, o + j * 3, none⟩ (.bool (goneK K))) (([] : List (Addr × MK)) ++ [(⟨b, o + j * 3, none⟩, MK.bool)]) K) := Lib.hid (Stored.put (n := K) .bool S0.out (Below.refl _ _) D0.out (notIn_nil _) (by simp only [List.length_append, List.length_cons, List.length_nil] <;> (omega)))
      obtain ⟨so1, sp1, sm1⟩ := S1.out.sub HO1.out HM1.out (farAll_snoc (farAll_nil f1) nb1)
      have C1 := Lib.hid (markEntryS_p (K + 1) (by omega) uv1 _ _ so1 sm1 (by rw [sp1, HLL1.out] <;> (omega)))
      rw [sp1, HLL1.out] at C1
      clear so1 sp1 sm1
      obtain ⟨K1, hK1⟩ : ∃ K1 : Nat, (K + 1) + L1 = K1 := ⟨_, rfl⟩
      rw [hK1] at C1
      rw [show (((K + 1) : Nat) : Int) = (K : Int) + 1 from by omega] at C1
      have HK1 := Lib.hid hK1
      have hk1b : (K1 : Int) = (K : Int) + 1 + (L1 : Int) := by omega
      have hk1n : (0 : Int) ≤ (K1 : Int) := by omega
      have hk1l : (K1 : Int) ≤ 1073741823 := by omega
      have HB1 := Lib.hid hk1b
      clear hK1 hk1b
      go_wp2_with fail
      refine C1.out.mono ?_
      rintro e w1 ⟨rfl, t1⟩
      have S2 : Hid (Stored wr w1 (([] : List (Addr × MK)) ++ [(⟨b, o + j * 3, none⟩, MK.bool)] ++ PT.planS PT.tentry wr uv1) K) := Lib.hid (S1.out.call t1 (by simp only [List.length_append, List.length_cons, List.length_nil] <;> (omega)) (PT.planS_in HO1.out) (farAll_snoc (farAll_nil f1) nb1))
      clear t1 d0 d1 d2
      clear z0 z2
      have d2 := S2.out.at D2.out (notIn_app (notIn_snoc (notIn_nil _) (fun e => by injection e; omega)) (PT.planS_in HO1.out) nb1)
      have z2 := S2.out.fro D2.out (HF.out _)
      have S3 : Hid (Stored wr (w1.setCell ⟨b, o + j * 3 + 2, none⟩ (.int .i64 ((K1 : Int)))) (([] : List (Addr × MK)) ++ [(⟨b, o + j * 3, none⟩, MK.bool)] ++ PT.planS PT.tentry wr uv1 ++ [(⟨b, o + j * 3 + 2, none⟩, MK.int)]) K) := Lib.hid (Stored.put (n := K1) .int S2.out (Below.refl _ _) D2.out (notIn_app (notIn_snoc (notIn_nil _) (fun e => by injection e; omega)) (PT.planS_in HO1.out) nb1) (by simp only [List.length_append, List.length_cons, List.length_nil, HLL1.out] <;> (have := HB1.out; omega)))
      obtain ⟨hE1, hE2⟩ := HR.out (K1 + 1) _ S3.out (by have := HK1.out; omega)
      have HE1 := Lib.hid hE1
      have HE2 := Lib.hid hE2
      clear hE1 hE2
      go_wp2
      go_roundw
      case rel => exact ⟨j + 1, (K1 + 1), by go_num, by go_num, HE1, by omega, HE2⟩
      case measure => simp [intOf]; omega
    · have hlt2 : (n : Int) ≤ (j : Int) := by omega
      obtain rfl : j = n := by omega
      go_wp2
      go_ret
      exact ⟨ret_int (by rw [HK.out]), HS.out⟩

set_option maxRecDepth 100000 in
set_option maxHeartbeats 1600000 in
/-- laws.heldReplicaS -/
theorem heldReplicaS_p (k0 : Nat) (h0 : 0 < k0) (v : Value) (L0 : Nat) (w : World) (h : HeldS PT.treplica w v k0 L0) (hL : k0 + L0 ≤ 1073741824) :
    Calls Try.prog 52 #[v, .int .i64 (k0 : Int)] w fun e w' => e = .returned (.int .i64 ((k0 + L0 : Nat) : Int)) ∧ Below w.heap.size w w' := by
  obtain ⟨a, n, cap, rfl, hnc, hcm, hz, r⟩ := h.form
  have R := Lib.hid r
  have HL := Lib.hid hL
  have HZ := Lib.hid hz
  clear r hL h hz
  have hnI : (n : Int) ≤ 9223372036854775807 := by unfold maxLen at hcm; omega
  clear hnc hcm
  go_enter Try.func52, Try.ntmps52
  go_wp2
  go_loopw [1, 5] (fun kk i wr => ∃ j K : Nat, i = .int .i64 (j : Int) ∧ kk = .int .i64 (K : Int) ∧ Hid (K = k0 + (PT.planS PT.treplica w (.slice a j cap)).length) ∧ j ≤ n ∧ Below w.heap.size w wr) (fun _ i _ => n - (intOf i).toNat)
  case atStart => exact ⟨0, k0, rfl, rfl, Lib.hid (by rw [PT.planS_zero]; rfl), Nat.zero_le _, Below.refl _ _⟩
  case round =>
    obtain ⟨j, K, rfl, rfl, HK, hj, hb⟩ := hrel
    by_cases hlt : j < n
    · have hlt2 : (j : Int) < (n : Int) := by omega
      obtain ⟨b, o, rfl, hbw, hLe, hc⟩ := R.out (by omega)
      have hKK := HK.out
      replace hKK : K = k0 + ((PT.rows PT.treplica j).plan w b o).length := hKK
      have hrl := PT.rows_len_le PT.treplica w b o hlt
      have hA := hc j hlt
      rw [← hKK] at hA
      obtain ⟨Lj, hLj⟩ : ∃ Lj, (PT.treplica.plan w b (o + j * PT.treplica.size)).length = Lj := ⟨_, rfl⟩
      rw [hLj] at hA hrl
      have HN : Hid (∀ K2, K2 = K + Lj → K2 = k0 + (PT.planS PT.treplica w (.slice (some ⟨b, o, none⟩) (j + 1) cap)).length) := Lib.hid fun K2 hk => by
        show K2 = k0 + ((PT.rows PT.treplica (j + 1)).plan w b o).length
        rw [PT.rows_snoc, List.length_append, hLj]; omega
      have hKj : K + Lj ≤ 1073741824 := by have := HL.out; omega
      obtain ⟨g, ok, hnd, hbl, hmk, hlen⟩ := hA.below hb
      clear hA hc hLe hrl hLj hKK
      obtain ⟨f0, f0r, rfl, ⟨⟨uv0, d0⟩, rfl⟩, ⟨f1, f1r, rfl, ⟨uv1, d1, r1⟩, ⟨⟨uv2, d2⟩, rfl⟩⟩⟩ := ok
      replace d0 : wr.cell? ⟨b, o + j * 3, none⟩ = some uv0 := d0
      replace d1 : wr.cell? ⟨b, o + j * 3 + 1, none⟩ = some uv1 := d1
      replace d2 : wr.cell? ⟨b, o + j * 3 + 2, none⟩ = some uv2 := d2
      have hap1 := PT.arr_plan (p := PT.tentry) d1
      obtain ⟨L1, hL1⟩ : ∃ L, (PT.planS PT.tentry wr uv1).length = L := ⟨_, rfl⟩
      have hn1 : f1.Nodup := (List.nodup_cons.1 hnd).2.sublist (by simp)
      replace hmk : Marked wr ([(⟨b, o + j * 3, none⟩, MK.bool)] ++ ((PT.arr PT.tentry).plan wr b (o + j * 3 + 1) ++ ([(⟨b, o + j * 3 + 2, none⟩, MK.int)])) : List (Addr × MK)) K := hmk
      replace hlen : ([(⟨b, o + j * 3, none⟩, MK.bool)] ++ ((PT.arr PT.tentry).plan wr b (o + j * 3 + 1) ++ ([(⟨b, o + j * 3 + 2, none⟩, MK.int)])) : List (Addr × MK)).length = Lj := hlen
      rw [hap1] at hmk hlen
      simp only [List.length_append, List.length_cons, List.length_nil, hL1] at hlen
      have e0 : wr.cell? ⟨b, o + j * 3, none⟩ = some (.bool (goneK K)) := (hmk.left).one
      have q0 : Marked wr _ (K + 1) := hmk.right
      have g1 : HeldS PT.tentry wr uv1 (K + 1) L1 := ⟨_, r1, hn1, q0.left, hL1⟩
      obtain ⟨K1, hK1⟩ : ∃ K1 : Nat, (K + 1) + L1 = K1 := ⟨_, rfl⟩
      have q1 := q0.right
      rw [hL1, hK1] at q1
      have e2 : wr.cell? ⟨b, o + j * 3 + 2, none⟩ = some (.int .i64 ((K1 : Int))) := (q1).one
      have hk1n : (0 : Int) ≤ (K1 : Int) := by omega
      have hk1l : (K1 : Int) ≤ 1073741823 := by omega
      have HB1 : Hid ((K1 : Int) = (K : Int) + 1 + (L1 : Int)) := Lib.hid (by omega)
      have hk1p : (0 : Int) < (K1 : Int) := by omega
      have hKt : K + 2 ≤ 1073741824 := by omega
      have hK0 : 0 < K := by have := HK.out; omega
      have hK0I : (0 : Int) ≤ (K : Int) := by omega
      have hgl : b < wr.heap.size := hbl
      have HT : Hid ((K1 + 1) = K + Lj) := Lib.hid (by omega)
      have hg0 : ((((K : Int)) % 3) == 0) = goneK K := by unfold goneK; rw [show ((K : Int)) = ((K : Nat) : Int) from by omega, Bool.eq_iff_iff, beq_iff_eq, decide_eq_true_iff]
      have C1 : Hid (∀ W, HeldS PT.tentry W uv1 (K + 1) L1 → Calls Try.prog 93 #[uv1, .int .i64 ((K : Int) + 1)] W fun e w' => e = .returned (.int .i64 (K1 : Int)) ∧ Below W.heap.size W w') :=
        Lib.hid fun W hW => by rw [show ((K : Int) + 1) = (((K + 1) : Nat) : Int) from by omega, ← hK1]; exact heldEntryS_p (K + 1) (by omega) uv1 L1 W hW (by omega)
      clear hmk hlen hnd q0 q1 hap1 hL1 hn1 r1 hK1 d0 d2
      generalize goneK K = gb0 at *
      have nb0 : (gb0 != gb0) = false := by simp
      have G1 := Lib.hid g1
      clear g1
      go_wp2_with fail
      refine (C1.out _ G1.out).mono ?_
      rintro e w1 ⟨rfl, k1⟩
      replace e2 := cell_step k1 e2
      clear d1
      replace hgl : b < w1.heap.size := by have := k1.size; omega
      replace hb : Below w.heap.size w w1 := below_after k1 hb
      clear k1
      go_wp2
      go_roundw
      case rel => exact ⟨j + 1, (K1 + 1), by go_num, by go_num, Lib.hid (HN.out _ HT.out), by omega, hb⟩
      case measure => simp [intOf]; omega
    · have hlt2 : (n : Int) ≤ (j : Int) := by omega
      obtain rfl : j = n := by omega
      go_wp2
      go_ret
      refine ⟨ret_int ?_, hb⟩
      rw [HK.out]
      by_cases hj0 : j = 0
      · subst hj0
        rw [PT.planS_zero, HZ.out rfl]; rfl
      · obtain ⟨b, o, rfl, _, hLe, _⟩ := R.out (by omega)
        rw [hLe]; rfl

end Go.Proofs.Ytogdbjalgledpaa

