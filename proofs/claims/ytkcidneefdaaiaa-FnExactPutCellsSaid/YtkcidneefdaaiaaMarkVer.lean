/- laws.markVerS, laws.heldVerS. Printed by mkmark.py. -/
import Derived.Test.YtkcidneefdaaiaaPlanT
namespace Go.Proofs.Ytkcidneefdaaiaa
open Go.RowKit

set_option maxRecDepth 100000 in
set_option maxHeartbeats 1600000 in
/-- laws.markVerS -/
theorem markVerS_p (k0 : Nat) (h0 : 0 < k0) (v : Value) (fp : List Nat) (w : World) (h : PT.okS PT.tver w v fp) (hm : Mine w 0 fp) (hL : k0 + (PT.planS PT.tver w v).length ≤ 1073741824) :
    Calls Try.prog 38 #[v, .int .i64 (k0 : Int)] w fun e w' => e = .returned (.int .i64 ((k0 + (PT.planS PT.tver w v).length : Nat) : Int)) ∧ Stored w w' (PT.planS PT.tver w v) k0 := by
  obtain ⟨a, n, cap, rfl, hnc, hcm, r⟩ := PT.okS_form h hm
  have R := Lib.hid r
  have HL := Lib.hid hL
  clear r hL h hm
  have hnI : (n : Int) ≤ 9223372036854775807 := by unfold maxLen at hcm; omega
  clear hnc hcm
  go_enter Try.func38, Try.ntmps38
  go_wp2
  go_loopw [1, 5] (fun kk i wr => ∃ j K : Nat, i = .int .i64 (j : Int) ∧ kk = .int .i64 (K : Int) ∧ Hid (K = k0 + (PT.planS PT.tver w (.slice a j cap)).length) ∧ j ≤ n ∧ Hid (Stored w wr (PT.planS PT.tver w (.slice a j cap)) k0)) (fun _ i _ => n - (intOf i).toNat)
  case atStart => exact ⟨0, k0, rfl, rfl, Lib.hid (by rw [PT.planS_zero]; rfl), Nat.zero_le _, Lib.hid (by rw [PT.planS_zero]; exact stored_refl _ _)⟩
  case round =>
    obtain ⟨j, K, rfl, rfl, HK, hj, HS⟩ := hrel
    by_cases hlt : j < n
    · have hlt2 : (j : Int) < (n : Int) := by omega
      obtain ⟨b, o, f, rfl, hb, hok, hmf⟩ := R.out (by omega)
      obtain ⟨g, ok, mine, hpl⟩ := round_open hok hb hmf hlt HS.out
      have hrl := PT.rows_len_le PT.tver w b o hlt
      obtain ⟨f0, f0r, rfl, ⟨⟨uv0, d0⟩, rfl⟩, ⟨f1, f1r, rfl, ⟨⟨uv1, d1⟩, rfl⟩, ⟨⟨uv2, d2⟩, rfl⟩⟩⟩ := ok
      replace d0 : wr.cell? ⟨b, o + j * 3, none⟩ = some uv0 := d0
      replace d1 : wr.cell? ⟨b, o + j * 3 + 1, none⟩ = some uv1 := d1
      replace d2 : wr.cell? ⟨b, o + j * 3 + 2, none⟩ = some uv2 := d2
      try simp only [List.nil_append, List.append_nil] at mine
      have hQ : ([] : List (Addr × MK)) ++ [(⟨b, o + j * 3, none⟩, MK.int)] ++ [(⟨b, o + j * 3 + 1, none⟩, MK.str)] ++ [(⟨b, o + j * 3 + 2, none⟩, MK.bool)] = PT.tver.plan w b (o + j * PT.tver.size) := by rw [← hpl]; rfl
      have hql : (PT.tver.plan w b (o + j * PT.tver.size)).length = 3 := by rw [← hQ]; simp only [List.length_append, List.length_cons, List.length_nil] <;> omega
      have HR : Hid (∀ K2 w2, Stored wr w2 (([] : List (Addr × MK)) ++ [(⟨b, o + j * 3, none⟩, MK.int)] ++ [(⟨b, o + j * 3 + 1, none⟩, MK.str)] ++ [(⟨b, o + j * 3 + 2, none⟩, MK.bool)]) K → K2 = K + (3) → K2 = k0 + (PT.planS PT.tver w (.slice (some ⟨b, o, none⟩) (j + 1) cap)).length ∧ Stored w w2 (PT.planS PT.tver w (.slice (some ⟨b, o, none⟩) (j + 1) cap)) k0) := Lib.hid fun K2 w2 hs hk => by
        have hKK := HK.out
        replace hKK : K = k0 + ((PT.rows PT.tver j).plan w b o).length := hKK
        refine ⟨?_, round_close hok hmf hlt HS.out (hKK ▸ hs) hQ⟩
        show K2 = k0 + ((PT.rows PT.tver (j + 1)).plan w b o).length
        rw [PT.rows_snoc, List.length_append, hql]; omega
      have hKb : (K : Int) + ((3 : Nat) : Int) ≤ 1073741824 := by
        have h1 := HK.out; replace h1 : K = k0 + ((PT.rows PT.tver j).plan w b o).length := h1
        have h2 := HL.out; replace h2 : k0 + ((PT.rows PT.tver n).plan w b o).length ≤ 1073741824 := h2
        omega
      have hK0 : 0 < K := by have := HK.out; omega
      have hK0I : (0 : Int) ≤ (K : Int) := by omega
      have fr := mine.free b List.mem_cons_self
      have z0 := fr (o + j * 3)
      have z1 := fr (o + j * 3 + 1)
      have z2 := fr (o + j * 3 + 2)
      have HF := Lib.hid fr
      clear hql hQ hpl hrl hok hmf fr mine
      have S0 := Lib.hid (stored_refl wr K)
      have D0 := Lib.hid d0
      have D1 := Lib.hid d1
      have D2 := Lib.hid d2
      have S1 : Hid (Stored wr (wr.setCell ⟨b, o + j * 3, none⟩ (.int .i64 ((K : Int)))) (([] : List (Addr × MK)) ++ [(⟨b, o + j * 3, none⟩, MK.int)]) K) := Lib.hid (Stored.put (n := K) .int S0.out (Below.refl _ _) D0.out (notIn_nil _) (by simp only [List.length_append, List.length_cons, List.length_nil] <;> (omega)))
      have C1 : Hid (∀ W, Calls Try.prog 28 #[.int .i64 ((K : Int) + 1)] W fun e w' => e = .returned (.string (markB (K + 1))) ∧ Below W.heap.size W w') :=
        Lib.hid fun W => by rw [show ((K : Int) + 1) = (((K + 1) : Nat) : Int) from by omega]; exact markText_any (K + 1) (by omega) (by omega) W
      go_wp2_with fail
      refine (C1.out _).mono ?_
      rintro e w1 ⟨rfl, k1⟩
      have T1 := Lib.hid (S1.out.trans (stored_below _ k1) (fun _ _ h => by cases h))
      rw [List.append_nil] at T1
      clear d0 d1 d2
      clear z0 z1 z2
      have d1 := T1.out.at D1.out (notIn_snoc (notIn_nil _) (fun e => by injection e; omega))
      have z1 := T1.out.fro D1.out (HF.out _)
      have d2 := T1.out.at D2.out (notIn_snoc (notIn_nil _) (fun e => by injection e; omega))
      have z2 := T1.out.fro D2.out (HF.out _)
      have S2 : Hid (Stored wr (w1.setCell ⟨b, o + j * 3 + 1, none⟩ (.string (markB (K + 1)))) (([] : List (Addr × MK)) ++ [(⟨b, o + j * 3, none⟩, MK.int)] ++ [(⟨b, o + j * 3 + 1, none⟩, MK.str)]) K) := Lib.hid (Stored.put (n := (K + 1)) .str S1.out k1 D1.out (notIn_snoc (notIn_nil _) (fun e => by injection e; omega)) (by simp only [List.length_append, List.length_cons, List.length_nil] <;> (omega)))
      clear k1
      have hg2 : ((((K : Int) + 1 + 1) % 3) == 0) = goneK (K + 2) := by unfold goneK; rw [show ((K : Int) + 1 + 1) = (((K + 2) : Nat) : Int) from by omega, Bool.eq_iff_iff, beq_iff_eq, decide_eq_true_iff]
      have S3 : Hid (Stored wr ((w1.setCell ⟨b, o + j * 3 + 1, none⟩ (.string (markB (K + 1)))).setCell ⟨b, o + j * 3 + 2, none⟩ (.bool (goneK (K + 2)))) (([] : List (Addr × MK)) ++ [(⟨b, o + j * 3, none⟩, MK.int)] ++ [(⟨b, o + j * 3 + 1, none⟩, MK.str)] ++ [(⟨b, o + j * 3 + 2, none⟩, MK.bool)]) K) := Lib.hid (Stored.put (n := (K + 2)) .bool S2.out (Below.refl _ _) D2.out (notIn_snoc (notIn_snoc (notIn_nil _) (fun e => by injection e; omega)) (fun e => by injection e; omega)) (by simp only [List.length_append, List.length_cons, List.length_nil] <;> (omega)))
      obtain ⟨hE1, hE2⟩ := HR.out (K + 3) _ S3.out (by  omega)
      have HE1 := Lib.hid hE1
      have HE2 := Lib.hid hE2
      clear hE1 hE2
      go_wp2
      go_roundw
      case rel => exact ⟨j + 1, (K + 3), by go_num, by go_num, HE1, by omega, HE2⟩
      case measure => simp [intOf]; omega
    · have hlt2 : (n : Int) ≤ (j : Int) := by omega
      obtain rfl : j = n := by omega
      go_wp2
      go_ret
      exact ⟨ret_int (by rw [HK.out]), HS.out⟩

set_option maxRecDepth 100000 in
set_option maxHeartbeats 1600000 in
/-- laws.heldVerS -/
theorem heldVerS_p (k0 : Nat) (h0 : 0 < k0) (v : Value) (L0 : Nat) (w : World) (h : HeldS PT.tver w v k0 L0) (hL : k0 + L0 ≤ 1073741824) :
    Calls Try.prog 39 #[v, .int .i64 (k0 : Int)] w fun e w' => e = .returned (.int .i64 ((k0 + L0 : Nat) : Int)) ∧ Below w.heap.size w w' := by
  obtain ⟨a, n, cap, rfl, hnc, hcm, hz, r⟩ := h.form
  have R := Lib.hid r
  have HL := Lib.hid hL
  have HZ := Lib.hid hz
  clear r hL h hz
  have hnI : (n : Int) ≤ 9223372036854775807 := by unfold maxLen at hcm; omega
  clear hnc hcm
  go_enter Try.func39, Try.ntmps39
  go_wp2
  go_loopw [1, 5] (fun kk i wr => ∃ j K : Nat, i = .int .i64 (j : Int) ∧ kk = .int .i64 (K : Int) ∧ Hid (K = k0 + (PT.planS PT.tver w (.slice a j cap)).length) ∧ j ≤ n ∧ Below w.heap.size w wr) (fun _ i _ => n - (intOf i).toNat)
  case atStart => exact ⟨0, k0, rfl, rfl, Lib.hid (by rw [PT.planS_zero]; rfl), Nat.zero_le _, Below.refl _ _⟩
  case round =>
    obtain ⟨j, K, rfl, rfl, HK, hj, hb⟩ := hrel
    by_cases hlt : j < n
    · have hlt2 : (j : Int) < (n : Int) := by omega
      obtain ⟨b, o, rfl, hbw, hLe, hc⟩ := R.out (by omega)
      have hKK := HK.out
      replace hKK : K = k0 + ((PT.rows PT.tver j).plan w b o).length := hKK
      have hrl := PT.rows_len_le PT.tver w b o hlt
      have hA := hc j hlt
      rw [← hKK] at hA
      obtain ⟨Lj, hLj⟩ : ∃ Lj, (PT.tver.plan w b (o + j * PT.tver.size)).length = Lj := ⟨_, rfl⟩
      rw [hLj] at hA hrl
      have HN : Hid (∀ K2, K2 = K + Lj → K2 = k0 + (PT.planS PT.tver w (.slice (some ⟨b, o, none⟩) (j + 1) cap)).length) := Lib.hid fun K2 hk => by
        show K2 = k0 + ((PT.rows PT.tver (j + 1)).plan w b o).length
        rw [PT.rows_snoc, List.length_append, hLj]; omega
      have hKj : K + Lj ≤ 1073741824 := by have := HL.out; omega
      obtain ⟨g, ok, hnd, hbl, hmk, hlen⟩ := hA.below hb
      clear hA hc hLe hrl hLj hKK
      obtain ⟨f0, f0r, rfl, ⟨⟨uv0, d0⟩, rfl⟩, ⟨f1, f1r, rfl, ⟨⟨uv1, d1⟩, rfl⟩, ⟨⟨uv2, d2⟩, rfl⟩⟩⟩ := ok
      replace d0 : wr.cell? ⟨b, o + j * 3, none⟩ = some uv0 := d0
      replace d1 : wr.cell? ⟨b, o + j * 3 + 1, none⟩ = some uv1 := d1
      replace d2 : wr.cell? ⟨b, o + j * 3 + 2, none⟩ = some uv2 := d2
      replace hmk : Marked wr ([(⟨b, o + j * 3, none⟩, MK.int)] ++ ([(⟨b, o + j * 3 + 1, none⟩, MK.str)] ++ ([(⟨b, o + j * 3 + 2, none⟩, MK.bool)])) : List (Addr × MK)) K := hmk
      replace hlen : ([(⟨b, o + j * 3, none⟩, MK.int)] ++ ([(⟨b, o + j * 3 + 1, none⟩, MK.str)] ++ ([(⟨b, o + j * 3 + 2, none⟩, MK.bool)])) : List (Addr × MK)).length = Lj := hlen
      simp only [List.length_append, List.length_cons, List.length_nil] at hlen
      have e0 : wr.cell? ⟨b, o + j * 3, none⟩ = some (.int .i64 ((K : Int))) := (hmk.left).one
      have q0 : Marked wr _ (K + 1) := hmk.right
      have e1 : wr.cell? ⟨b, o + j * 3 + 1, none⟩ = some (.string (markB (K + 1))) := (q0.left).one
      have q1 : Marked wr _ (K + 2) := q0.right
      have e2 : wr.cell? ⟨b, o + j * 3 + 2, none⟩ = some (.bool (goneK (K + 2))) := (q1).one
      have hKt : K + 3 ≤ 1073741824 := by omega
      have hK0 : 0 < K := by have := HK.out; omega
      have hK0I : (0 : Int) ≤ (K : Int) := by omega
      have hgl : b < wr.heap.size := hbl
      have HT : Hid ((K + 3) = K + Lj) := Lib.hid (by omega)
      have C1 : Hid (∀ W, Calls Try.prog 28 #[.int .i64 ((K : Int) + 1)] W fun e w' => e = .returned (.string (markB (K + 1))) ∧ Below W.heap.size W w') :=
        Lib.hid fun W => by rw [show ((K : Int) + 1) = (((K + 1) : Nat) : Int) from by omega]; exact markText_any (K + 1) (by omega) (by omega) W
      have hg2 : ((((K : Int) + 1 + 1) % 3) == 0) = goneK (K + 2) := by unfold goneK; rw [show ((K : Int) + 1 + 1) = (((K + 2) : Nat) : Int) from by omega, Bool.eq_iff_iff, beq_iff_eq, decide_eq_true_iff]
      clear hmk hlen hnd q0 q1 d0 d1 d2
      generalize markB (K + 1) = s1 at *
      generalize goneK (K + 2) = gb2 at *
      have nb2 : (gb2 != gb2) = false := by simp
      go_wp2_with fail
      have hx2 := fun (u : World) (b o : Nat) (h : b < wr.heap.size) => ext_cell wr u b o h
      refine wp_region_ext (by kernel_rfl) (by kernel_rfl) wr.heap.size ?_
      repeat (any_goals (go_big_quiet_step ((go_at_call 28; exact calls_ext (by first | (simp; done) | omega | (simp; omega)) (C1.out _)))))
      refine wpQuiet_nil ?_
      intro w1 k1
      clear hx2
      replace e2 := cell_step k1 e2
      clear e1
      replace hgl : b < w1.heap.size := by have := k1.size; omega
      replace hb : Below w.heap.size w w1 := below_after k1 hb
      clear k1
      go_wp2
      go_roundw
      case rel => exact ⟨j + 1, (K + 3), by go_num, by go_num, Lib.hid (HN.out _ HT.out), by omega, hb⟩
      case measure => simp [intOf]; omega
    · have hlt2 : (n : Int) ≤ (j : Int) := by omega
      obtain rfl : j = n := by omega
      go_wp2
      go_ret
      refine ⟨ret_int ?_, hb⟩
      rw [HK.out]
      by_cases hj0 : j = 0
      · subst hj0
        rw [PT.planS_zero, HZ.out rfl]; rfl
      · obtain ⟨b, o, rfl, _, hLe, _⟩ := R.out (by omega)
        rw [hLe]; rfl

end Go.Proofs.Ytkcidneefdaaiaa
