/- laws.markVoterS, laws.heldVoterS. Printed by mkmark.py. -/
import Derived.Test.YtbkhooklieangaaPlanT
import Derived.Test.YtbkhooklieangaaMarkInt
namespace Go.Proofs.Ytbkhooklieangaa
open Go.RowKit

set_option maxRecDepth 100000 in
set_option maxHeartbeats 1600000 in
/-- laws.markVoterS -/
theorem markVoterS_p (k0 : Nat) (h0 : 0 < k0) (v : Value) (fp : List Nat) (w : World) (h : PT.okS PT.tvoter w v fp) (hm : Mine w 0 fp) (hL : k0 + (PT.planS PT.tvoter w v).length ≤ 1073741824) :
    Calls Try.prog 41 #[v, .int .i64 (k0 : Int)] w fun e w' => e = .returned (.int .i64 ((k0 + (PT.planS PT.tvoter w v).length : Nat) : Int)) ∧ Stored w w' (PT.planS PT.tvoter w v) k0 := by
  obtain ⟨a, n, cap, rfl, hnc, hcm, r⟩ := PT.okS_form h hm
  have R := Lib.hid r
  have HL := Lib.hid hL
  clear r hL h hm
  have hnI : (n : Int) ≤ 9223372036854775807 := by unfold maxLen at hcm; omega
  clear hnc hcm
  go_enter Try.func41, Try.ntmps41
  go_wp2
  go_loopw [1, 5] (fun kk i wr => ∃ j K : Nat, i = .int .i64 (j : Int) ∧ kk = .int .i64 (K : Int) ∧ Hid (K = k0 + (PT.planS PT.tvoter w (.slice a j cap)).length) ∧ j ≤ n ∧ Hid (Stored w wr (PT.planS PT.tvoter w (.slice a j cap)) k0)) (fun _ i _ => n - (intOf i).toNat)
  case atStart => exact ⟨0, k0, rfl, rfl, Lib.hid (by rw [PT.planS_zero]; rfl), Nat.zero_le _, Lib.hid (by rw [PT.planS_zero]; exact stored_refl _ _)⟩
  case round =>
    obtain ⟨j, K, rfl, rfl, HK, hj, HS⟩ := hrel
    by_cases hlt : j < n
    · have hlt2 : (j : Int) < (n : Int) := by omega
      obtain ⟨b, o, f, rfl, hb, hok, hmf⟩ := R.out (by omega)
      obtain ⟨g, ok, mine, hpl⟩ := round_open hok hb hmf hlt HS.out
      have hrl := PT.rows_len_le PT.tvoter w b o hlt
      obtain ⟨f0, f0r, rfl, ⟨⟨uv0, d0⟩, rfl⟩, ⟨f1, f1r, rfl, ⟨⟨uv1, d1⟩, rfl⟩, ⟨f2, f2r, rfl, ⟨⟨uv2, d2⟩, rfl⟩, ⟨f3, f3r, rfl, ⟨uv3, d3, r3⟩, ⟨⟨uv4, d4⟩, rfl⟩⟩⟩⟩⟩ := ok
      replace d0 : wr.cell? ⟨b, o + j * 5, none⟩ = some uv0 := d0
      replace d1 : wr.cell? ⟨b, o + j * 5 + 1, none⟩ = some uv1 := d1
      replace d2 : wr.cell? ⟨b, o + j * 5 + 2, none⟩ = some uv2 := d2
      replace d3 : wr.cell? ⟨b, o + j * 5 + 3, none⟩ = some uv3 := d3
      replace d4 : wr.cell? ⟨b, o + j * 5 + 4, none⟩ = some uv4 := d4
      try simp only [List.nil_append, List.append_nil] at mine
      obtain ⟨m3, nb3⟩ := mine.part
      obtain ⟨L3, hL3⟩ : ∃ L, (PT.planS PT.tint wr uv3).length = L := ⟨_, rfl⟩
      have hap3 := PT.arr_plan (p := PT.tint) d3
      have hQ : ([] : List (Addr × MK)) ++ [(⟨b, o + j * 5, none⟩, MK.bool)] ++ [(⟨b, o + j * 5 + 1, none⟩, MK.int)] ++ [(⟨b, o + j * 5 + 2, none⟩, MK.int)] ++ PT.planS PT.tint wr uv3 ++ [(⟨b, o + j * 5 + 4, none⟩, MK.bool)] = PT.tvoter.plan w b (o + j * PT.tvoter.size) := by
        rw [← hpl]
        show _ = [(⟨b, o + j * 5, none⟩, MK.bool)] ++ ([(⟨b, o + j * 5 + 1, none⟩, MK.int)] ++ ([(⟨b, o + j * 5 + 2, none⟩, MK.int)] ++ ((PT.arr PT.tint).plan wr b (o + j * 5 + 3) ++ ([(⟨b, o + j * 5 + 4, none⟩, MK.bool)]))))
        rw [hap3]
        simp only [List.nil_append, List.append_assoc, List.cons_append]
      have hql : (PT.tvoter.plan w b (o + j * PT.tvoter.size)).length = 4 + L3 := by rw [← hQ]; simp only [List.length_append, List.length_cons, List.length_nil, hL3] <;> omega
      have HR : Hid (∀ K2 w2, Stored wr w2 (([] : List (Addr × MK)) ++ [(⟨b, o + j * 5, none⟩, MK.bool)] ++ [(⟨b, o + j * 5 + 1, none⟩, MK.int)] ++ [(⟨b, o + j * 5 + 2, none⟩, MK.int)] ++ PT.planS PT.tint wr uv3 ++ [(⟨b, o + j * 5 + 4, none⟩, MK.bool)]) K → K2 = K + (4 + L3) → K2 = k0 + (PT.planS PT.tvoter w (.slice (some ⟨b, o, none⟩) (j + 1) cap)).length ∧ Stored w w2 (PT.planS PT.tvoter w (.slice (some ⟨b, o, none⟩) (j + 1) cap)) k0) := Lib.hid fun K2 w2 hs hk => by
        have hKK := HK.out
        replace hKK : K = k0 + ((PT.rows PT.tvoter j).plan w b o).length := hKK
        refine ⟨?_, round_close hok hmf hlt HS.out (hKK ▸ hs) hQ⟩
        show K2 = k0 + ((PT.rows PT.tvoter (j + 1)).plan w b o).length
        rw [PT.rows_snoc, List.length_append, hql]; omega
      have hKb : (K : Int) + ((4 + L3 : Nat) : Int) ≤ 1073741824 := by
        have h1 := HK.out; replace h1 : K = k0 + ((PT.rows PT.tvoter j).plan w b o).length := h1
        have h2 := HL.out; replace h2 : k0 + ((PT.rows PT.tvoter n).plan w b o).length ≤ 1073741824 := h2
        omega
      have hK0 : 0 < K := by have := HK.out; omega
      have hK0I : (0 : Int) ≤ (K : Int) := by omega
      have fr := mine.free b List.mem_cons_self
      have z0 := fr (o + j * 5)
      have z1 := fr (o + j * 5 + 1)
      have z2 := fr (o + j * 5 + 2)
      have z4 := fr (o + j * 5 + 4)
      have HF := Lib.hid fr
      have HO3 := Lib.hid r3
      have HM3 := Lib.hid m3
      have HLL3 := Lib.hid hL3
      clear hql hQ hpl hrl hok hmf fr mine r3 m3 hap3 hL3
      have S0 := Lib.hid (stored_refl wr K)
      have D0 := Lib.hid d0
      have D1 := Lib.hid d1
      have D2 := Lib.hid d2
      have D3 := Lib.hid d3
      have D4 := Lib.hid d4
      have hg0 : ((((K : Int)) % 3) == 0) = goneK K := by unfold goneK; rw [show ((K : Int)) = ((K : Nat) : Int) from by omega, Bool.eq_iff_iff, beq_iff_eq, decide_eq_true_iff]
      have S1 : Hid (Stored wr (wr.setCell ⟨b, o + j * 5, none⟩ (.bool (goneK K))) (([] : List (Addr × MK)) ++ [(⟨b, o + j * 5, none⟩, MK.bool)]) K) := Lib.hid (Stored.put (n := K) .bool S0.out (Below.refl _ _) D0.out (notIn_nil _) (by simp only [List.length_append, List.length_cons, List.length_nil] <;> (omega)))
      have S2 : Hid (Stored wr ((wr.setCell ⟨b, o + j * 5, none⟩ (.bool (goneK K))).setCell ⟨b, o + j * 5 + 1, none⟩ (.int .i64 ((K : Int) + 1))) (([] : List (Addr × MK)) ++ [(⟨b, o + j * 5, none⟩, MK.bool)] ++ [(⟨b, o + j * 5 + 1, none⟩, MK.int)]) K) := Lib.hid (Stored.put (n := (K + 1)) .int S1.out (Below.refl _ _) D1.out (notIn_snoc (notIn_nil _) (fun e => by injection e; omega)) (by simp only [List.length_append, List.length_cons, List.length_nil] <;> (omega)))
      have S3 : Hid (Stored wr (((wr.setCell ⟨b, o + j * 5, none⟩ (.bool (goneK K))).setCell ⟨b, o + j * 5 + 1, none⟩ (.int .i64 ((K : Int) + 1))).setCell ⟨b, o + j * 5 + 2, none⟩ (.int .i64 ((K : Int) + 1 + 1))) (([] : List (Addr × MK)) ++ [(⟨b, o + j * 5, none⟩, MK.bool)] ++ [(⟨b, o + j * 5 + 1, none⟩, MK.int)] ++ [(⟨b, o + j * 5 + 2, none⟩, MK.int)]) K) := Lib.hid (Stored.put (n := (K + 2)) .int S2.out (Below.refl _ _) D2.out (notIn_snoc (notIn_snoc (notIn_nil _) (fun e => by injection e; omega)) (fun e => by injection e; omega)) (by simp only [List.length_append, List.length_cons, List.length_nil] <;> (omega)))
      obtain ⟨so3, sp3, sm3⟩ := S3.out.sub HO3.out HM3.out (farAll_snoc (farAll_snoc (farAll_snoc (farAll_nil f3) nb3) nb3) nb3)
      have C3 := Lib.hid (markIntS_p (K + 3) (by omega) uv3 _ _ so3 sm3 (by rw [sp3, HLL3.out] <;> (omega)))
      rw [sp3, HLL3.out] at C3
      clear so3 sp3 sm3
      obtain ⟨K3, hK3⟩ : ∃ K3 : Nat, (K + 3) + L3 = K3 := ⟨_, rfl⟩
      rw [hK3] at C3
      rw [show (((K + 3) : Nat) : Int) = (K : Int) + 1 + 1 + 1 from by omega] at C3
      have HK3 := Lib.hid hK3
      have hk3b : (K3 : Int) = (K : Int) + 1 + 1 + 1 + (L3 : Int) := by omega
      have hk3n : (0 : Int) ≤ (K3 : Int) := by omega
      have hk3l : (K3 : Int) ≤ 1073741823 := by omega
      have HB3 := Lib.hid hk3b
      clear hK3 hk3b
      go_wp2_with fail
      refine C3.out.mono ?_
      rintro e w1 ⟨rfl, t3⟩
      have S4 : Hid (Stored wr w1 (([] : List (Addr × MK)) ++ [(⟨b, o + j * 5, none⟩, MK.bool)] ++ [(⟨b, o + j * 5 + 1, none⟩, MK.int)] ++ [(⟨b, o + j * 5 + 2, none⟩, MK.int)] ++ PT.planS PT.tint wr uv3) K) := Lib.hid (S3.out.call t3 (by simp only [List.length_append, List.length_cons, List.length_nil] <;> (omega)) (PT.planS_in HO3.out) (farAll_snoc (farAll_snoc (farAll_snoc (farAll_nil f3) nb3) nb3) nb3))
      clear t3 d0 d1 d2 d3 d4
      clear z0 z1 z2 z4
      have d4 := S4.out.at D4.out (notIn_app (notIn_snoc (notIn_snoc (notIn_snoc (notIn_nil _) (fun e => by injection e; omega)) (fun e => by injection e; omega)) (fun e => by injection e; omega)) (PT.planS_in HO3.out) nb3)
      have z4 := S4.out.fro D4.out (HF.out _)
      have hg4 : ((((K3 : Int)) % 3) == 0) = goneK K3 := by unfold goneK; rw [show ((K3 : Int)) = ((K3 : Nat) : Int) from by omega, Bool.eq_iff_iff, beq_iff_eq, decide_eq_true_iff]
      have S5 : Hid (Stored wr (w1.setCell ⟨b, o + j * 5 + 4, none⟩ (.bool (goneK K3))) (([] : List (Addr × MK)) ++ [(⟨b, o + j * 5, none⟩, MK.bool)] ++ [(⟨b, o + j * 5 + 1, none⟩, MK.int)] ++ [(⟨b, o + j * 5 + 2, none⟩, MK.int)] ++ PT.planS PT.tint wr uv3 ++ [(⟨b, o + j * 5 + 4, none⟩, MK.bool)]) K) := Lib.hid (Stored.put (n := K3) .bool S4.out (Below.refl _ _) D4.out (notIn_app (notIn_snoc (notIn_snoc (notIn_snoc (notIn_nil _) (fun e => by injection e; omega)) (fun e => by injection e; omega)) (fun e => by injection e; omega)) (PT.planS_in HO3.out) nb3) (by simp only [List.length_append, List.length_cons, List.length_nil, HLL3.out] <;> (have := HB3.out; omega)))
      obtain ⟨hE1, hE2⟩ := HR.out (K3 + 1) _ S5.out (by have := HK3.out; omega)
      have HE1 := Lib.hid hE1
      have HE2 := Lib.hid hE2
      clear hE1 hE2
      go_wp2
      go_roundw
      case rel => exact ⟨j + 1, (K3 + 1), by go_num, by go_num, HE1, by omega, HE2⟩
      case measure => simp [intOf]; omega
    · have hlt2 : (n : Int) ≤ (j : Int) := by omega
      obtain rfl : j = n := by omega
      go_wp2
      go_ret
      exact ⟨ret_int (by rw [HK.out]), HS.out⟩

set_option maxRecDepth 100000 in
set_option maxHeartbeats 1600000 in
/-- laws.heldVoterS -/
theorem heldVoterS_p (k0 : Nat) (h0 : 0 < k0) (v : Value) (L0 : Nat) (w : World) (h : HeldS PT.tvoter w v k0 L0) (hL : k0 + L0 ≤ 1073741824) :
    Calls Try.prog 44 #[v, .int .i64 (k0 : Int)] w fun e w' => e = .returned (.int .i64 ((k0 + L0 : Nat) : Int)) ∧ Below w.heap.size w w' := by
  obtain ⟨a, n, cap, rfl, hnc, hcm, hz, r⟩ := h.form
  have R := Lib.hid r
  have HL := Lib.hid hL
  have HZ := Lib.hid hz
  clear r hL h hz
  have hnI : (n : Int) ≤ 9223372036854775807 := by unfold maxLen at hcm; omega
  clear hnc hcm
  go_enter Try.func44, Try.ntmps44
  go_wp2
  go_loopw [1, 5] (fun kk i wr => ∃ j K : Nat, i = .int .i64 (j : Int) ∧ kk = .int .i64 (K : Int) ∧ Hid (K = k0 + (PT.planS PT.tvoter w (.slice a j cap)).length) ∧ j ≤ n ∧ Below w.heap.size w wr) (fun _ i _ => n - (intOf i).toNat)
  case atStart => exact ⟨0, k0, rfl, rfl, Lib.hid (by rw [PT.planS_zero]; rfl), Nat.zero_le _, Below.refl _ _⟩
  case round =>
    obtain ⟨j, K, rfl, rfl, HK, hj, hb⟩ := hrel
    by_cases hlt : j < n
    · have hlt2 : (j : Int) < (n : Int) := by omega
      obtain ⟨b, o, rfl, hbw, hLe, hc⟩ := R.out (by omega)
      have hKK := HK.out
      replace hKK : K = k0 + ((PT.rows PT.tvoter j).plan w b o).length := hKK
      have hrl := PT.rows_len_le PT.tvoter w b o hlt
      have hA := hc j hlt
      rw [← hKK] at hA
      obtain ⟨Lj, hLj⟩ : ∃ Lj, (PT.tvoter.plan w b (o + j * PT.tvoter.size)).length = Lj := ⟨_, rfl⟩
      rw [hLj] at hA hrl
      have HN : Hid (∀ K2, K2 = K + Lj → K2 = k0 + (PT.planS PT.tvoter w (.slice (some ⟨b, o, none⟩) (j + 1) cap)).length) := Lib.hid fun K2 hk => by
        show K2 = k0 + ((PT.rows PT.tvoter (j + 1)).plan w b o).length
        rw [PT.rows_snoc, List.length_append, hLj]; omega
      have hKj : K + Lj ≤ 1073741824 := by have := HL.out; omega
      obtain ⟨g, ok, hnd, hbl, hmk, hlen⟩ := hA.below hb
      clear hA hc hLe hrl hLj hKK
      obtain ⟨f0, f0r, rfl, ⟨⟨uv0, d0⟩, rfl⟩, ⟨f1, f1r, rfl, ⟨⟨uv1, d1⟩, rfl⟩, ⟨f2, f2r, rfl, ⟨⟨uv2, d2⟩, rfl⟩, ⟨f3, f3r, rfl, ⟨uv3, d3, r3⟩, ⟨⟨uv4, d4⟩, rfl⟩⟩⟩⟩⟩ := ok
      replace d0 : wr.cell? ⟨b, o + j * 5, none⟩ = some uv0 := d0
      replace d1 : wr.cell? ⟨b, o + j * 5 + 1, none⟩ = some uv1 := d1
      replace d2 : wr.cell? ⟨b, o + j * 5 + 2, none⟩ = some uv2 := d2
      replace d3 : wr.cell? ⟨b, o + j * 5 + 3, none⟩ = some uv3 := d3
      replace d4 : wr.cell? ⟨b, o + j * 5 + 4, none⟩ = some uv4 := d4
      have hap3 := PT.arr_plan (p := PT.tint) d3
      obtain ⟨L3, hL3⟩ : ∃ L, (PT.planS PT.tint wr uv3).length = L := ⟨_, rfl⟩
      have hn3 : f3.Nodup := (List.nodup_cons.1 hnd).2.sublist (by simp)
      replace hmk : Marked wr ([(⟨b, o + j * 5, none⟩, MK.bool)] ++ ([(⟨b, o + j * 5 + 1, none⟩, MK.int)] ++ ([(⟨b, o + j * 5 + 2, none⟩, MK.int)] ++ ((PT.arr PT.tint).plan wr b (o + j * 5 + 3) ++ ([(⟨b, o + j * 5 + 4, none⟩, MK.bool)])))) : List (Addr × MK)) K := hmk
      replace hlen : ([(⟨b, o + j * 5, none⟩, MK.bool)] ++ ([(⟨b, o + j * 5 + 1, none⟩, MK.int)] ++ ([(⟨b, o + j * 5 + 2, none⟩, MK.int)] ++ ((PT.arr PT.tint).plan wr b (o + j * 5 + 3) ++ ([(⟨b, o + j * 5 + 4, none⟩, MK.bool)])))) : List (Addr × MK)).length = Lj := hlen
      rw [hap3] at hmk hlen
      simp only [List.length_append, List.length_cons, List.length_nil, hL3] at hlen
      have e0 : wr.cell? ⟨b, o + j * 5, none⟩ = some (.bool (goneK K)) := (hmk.left).one
      have q0 : Marked wr _ (K + 1) := hmk.right
      have e1 : wr.cell? ⟨b, o + j * 5 + 1, none⟩ = some (.int .i64 ((K : Int) + 1)) := (q0.left).one
      have q1 : Marked wr _ (K + 2) := q0.right
      have e2 : wr.cell? ⟨b, o + j * 5 + 2, none⟩ = some (.int .i64 ((K : Int) + 1 + 1)) := (q1.left).one
      have q2 : Marked wr _ (K + 3) := q1.right
      have g3 : HeldS PT.tint wr uv3 (K + 3) L3 := ⟨_, r3, hn3, q2.left, hL3⟩
      obtain ⟨K3, hK3⟩ : ∃ K3 : Nat, (K + 3) + L3 = K3 := ⟨_, rfl⟩
      have q3 := q2.right
      rw [hL3, hK3] at q3
      have e4 : wr.cell? ⟨b, o + j * 5 + 4, none⟩ = some (.bool (goneK K3)) := (q3).one
      have hk3n : (0 : Int) ≤ (K3 : Int) := by omega
      have hk3l : (K3 : Int) ≤ 1073741823 := by omega
      have HB3 : Hid ((K3 : Int) = (K : Int) + 1 + 1 + 1 + (L3 : Int)) := Lib.hid (by omega)
      have hk3p : (0 : Int) < (K3 : Int) := by omega
      have hKt : K + 4 ≤ 1073741824 := by omega
      have hK0 : 0 < K := by have := HK.out; omega
      have hK0I : (0 : Int) ≤ (K : Int) := by omega
      have hgl : b < wr.heap.size := hbl
      have HT : Hid ((K3 + 1) = K + Lj) := Lib.hid (by omega)
      have hg0 : ((((K : Int)) % 3) == 0) = goneK K := by unfold goneK; rw [show ((K : Int)) = ((K : Nat) : Int) from by omega, Bool.eq_iff_iff, beq_iff_eq, decide_eq_true_iff]
      have C3 : Hid (∀ W, HeldS PT.tint W uv3 (K + 3) L3 → Calls Try.prog 94 #[uv3, .int .i64 ((K : Int) + 1 + 1 + 1)] W fun e w' => e = .returned (.int .i64 (K3 : Int)) ∧ Below W.heap.size W w') :=
        Lib.hid fun W hW => by rw [show ((K : Int) + 1 + 1 + 1) = (((K + 3) : Nat) : Int) from by omega, ← hK3]; exact heldIntS_p (K + 3) (by omega) uv3 L3 W hW (by omega)
      have hg4 : ((((K3 : Int)) % 3) == 0) = goneK K3 := by unfold goneK; rw [show ((K3 : Int)) = ((K3 : Nat) : Int) from by omega, Bool.eq_iff_iff, beq_iff_eq, decide_eq_true_iff]
      clear hmk hlen hnd q0 q1 q2 q3 hap3 hL3 hn3 r3 hK3 d0 d1 d2 d4
      generalize goneK K = gb0 at *
      have nb0 : (gb0 != gb0) = false := by simp
      generalize goneK K3 = gb4 at *
      have nb4 : (gb4 != gb4) = false := by simp
      have G3 := Lib.hid g3
      clear g3
      go_wp2_with fail
      refine (C3.out _ G3.out).mono ?_
      rintro e w1 ⟨rfl, k1⟩
      replace e4 := cell_step k1 e4
      clear d3
      replace hgl : b < w1.heap.size := by have := k1.size; omega
      replace hb : Below w.heap.size w w1 := below_after k1 hb
      clear k1
      go_wp2
      go_roundw
      case rel => exact ⟨j + 1, (K3 + 1), by go_num, by go_num, Lib.hid (HN.out _ HT.out), by omega, hb⟩
      case measure => simp [intOf]; omega
    · have hlt2 : (n : Int) ≤ (j : Int) := by omega
      obtain rfl : j = n := by omega
      go_wp2
      go_ret
      refine ⟨ret_int ?_, hb⟩
      rw [HK.out]
      by_cases hj0 : j = 0
      · subst hj0
        rw [PT.planS_zero, HZ.out rfl]; rfl
      · obtain ⟨b, o, rfl, _, hLe, _⟩ := R.out (by omega)
        rw [hLe]; rfl

end Go.Proofs.Ytbkhooklieangaa
