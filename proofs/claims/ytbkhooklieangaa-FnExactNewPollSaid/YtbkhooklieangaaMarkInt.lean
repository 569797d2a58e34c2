/- laws.markIntS, laws.heldIntS. Printed by mkmark.py. -/
import Derived.Test.YtbkhooklieangaaPlanT
namespace Go.Proofs.Ytbkhooklieangaa
open Go.RowKit

set_option maxRecDepth 100000 in
set_option maxHeartbeats 1600000 in
/-- laws.markIntS -/
theorem markIntS_p (k0 : Nat) (h0 : 0 < k0) (v : Value) (fp : List Nat) (w : World) (h : PT.okS PT.tint w v fp) (hm : Mine w 0 fp) (hL : k0 + (PT.planS PT.tint w v).length ≤ 1073741824) :
    Calls Try.prog 12 #[v, .int .i64 (k0 : Int)] w fun e w' => e = .returned (.int .i64 ((k0 + (PT.planS PT.tint w v).length : Nat) : Int)) ∧ Stored w w' (PT.planS PT.tint w v) k0 := by
  obtain ⟨a, n, cap, rfl, hnc, hcm, r⟩ := PT.okS_form h hm
  have R := Lib.hid r
  have HL := Lib.hid hL
  clear r hL h hm
  have hnI : (n : Int) ≤ 9223372036854775807 := by unfold maxLen at hcm; omega
  clear hnc hcm
  go_enter Try.func12, Try.ntmps12
  go_wp2
  go_loopw [1, 5] (fun kk i wr => ∃ j K : Nat, i = .int .i64 (j : Int) ∧ kk = .int .i64 (K : Int) ∧ Hid (K = k0 + (PT.planS PT.tint w (.slice a j cap)).length) ∧ j ≤ n ∧ Hid (Stored w wr (PT.planS PT.tint w (.slice a j cap)) k0)) (fun _ i _ => n - (intOf i).toNat)
  case atStart => exact ⟨0, k0, rfl, rfl, Lib.hid (by rw [PT.planS_zero]; rfl), Nat.zero_le _, Lib.hid (by rw [PT.planS_zero]; exact stored_refl _ _)⟩
  case round =>
    obtain ⟨j, K, rfl, rfl, HK, hj, HS⟩ := hrel
    by_cases hlt : j < n
    · have hlt2 : (j : Int) < (n : Int) := by omega
      obtain ⟨b, o, f, rfl, hb, hok, hmf⟩ := R.out (by omega)
      obtain ⟨g, ok, mine, hpl⟩ := round_open hok hb hmf hlt HS.out
      have hrl := PT.rows_len_le PT.tint w b o hlt
      obtain ⟨⟨uv0, d0⟩, rfl⟩ := ok
      have hj1 : o + j * PT.tint.size = o + j := by rw [show PT.tint.size = 1 from rfl, Nat.mul_one]
      replace d0 : wr.cell? ⟨b, o + j, none⟩ = some uv0 := hj1 ▸ d0
      try simp only [List.nil_append, List.append_nil] at mine
      have hQ : ([] : List (Addr × MK)) ++ [(⟨b, o + j, none⟩, MK.int)] = PT.tint.plan w b (o + j * PT.tint.size) := by rw [← hpl, hj1]; rfl
      have hql : (PT.tint.plan w b (o + j * PT.tint.size)).length = 1 := by rw [← hQ]; simp only [List.length_append, List.length_cons, List.length_nil] <;> omega
      have HR : Hid (∀ K2 w2, Stored wr w2 (([] : List (Addr × MK)) ++ [(⟨b, o + j, none⟩, MK.int)]) K → K2 = K + (1) → K2 = k0 + (PT.planS PT.tint w (.slice (some ⟨b, o, none⟩) (j + 1) cap)).length ∧ Stored w w2 (PT.planS PT.tint w (.slice (some ⟨b, o, none⟩) (j + 1) cap)) k0) := Lib.hid fun K2 w2 hs hk => by
        have hKK := HK.out
        replace hKK : K = k0 + ((PT.rows PT.tint j).plan w b o).length := hKK
        refine ⟨?_, round_close hok hmf hlt HS.out (hKK ▸ hs) hQ⟩
        show K2 = k0 + ((PT.rows PT.tint (j + 1)).plan w b o).length
        rw [PT.rows_snoc, List.length_append, hql]; omega
      have hKb : (K : Int) + ((1 : Nat) : Int) ≤ 1073741824 := by
        have h1 := HK.out; replace h1 : K = k0 + ((PT.rows PT.tint j).plan w b o).length := h1
        have h2 := HL.out; replace h2 : k0 + ((PT.rows PT.tint n).plan w b o).length ≤ 1073741824 := h2
        omega
      have hK0 : 0 < K := by have := HK.out; omega
      have hK0I : (0 : Int) ≤ (K : Int) := by omega
      have fr := mine.free b List.mem_cons_self
      have z0 := fr (o + j)
      have HF := Lib.hid fr
      clear hql hQ hpl hrl hok hmf fr mine
      have S0 := Lib.hid (stored_refl wr K)
      have D0 := Lib.hid d0
      have S1 : Hid (Stored wr (wr.setCell ⟨b, o + j, none⟩ (.int .i64 ((K : Int)))) (([] : List (Addr × MK)) ++ [(⟨b, o + j, none⟩, MK.int)]) K) := Lib.hid (Stored.put (n := K) .int S0.out (Below.refl _ _) D0.out (notIn_nil _) (by simp only [List.length_append, List.length_cons, List.length_nil] <;> (omega)))
      obtain ⟨hE1, hE2⟩ := HR.out (K + 1) _ S1.out (by  omega)
      have HE1 := Lib.hid hE1
      have HE2 := Lib.hid hE2
      clear hE1 hE2
      go_wp2
      go_roundw
      case rel => exact ⟨j + 1, (K + 1), by go_num, by go_num, HE1, by omega, HE2⟩
      case measure => simp [intOf]; omega
    · have hlt2 : (n : Int) ≤ (j : Int) := by omega
      obtain rfl : j = n := by omega
      go_wp2
      go_ret
      exact ⟨ret_int (by rw [HK.out]), HS.out⟩

set_option maxRecDepth 100000 in
set_option maxHeartbeats 1600000 in
/-- laws.heldIntS -/
theorem heldIntS_p (k0 : Nat) (h0 : 0 < k0) (v : Value) (L0 : Nat) (w : World) (h : HeldS PT.tint w v k0 L0) (hL : k0 + L0 ≤ 1073741824) :
    Calls Try.prog 94 #[v, .int .i64 (k0 : Int)] w fun e w' => e = .returned (.int .i64 ((k0 + L0 : Nat) : Int)) ∧ Below w.heap.size w w' := by
  obtain ⟨a, n, cap, rfl, hnc, hcm, hz, r⟩ := h.form
  have R := Lib.hid r
  have HL := Lib.hid hL
  have HZ := Lib.hid hz
  clear r hL h hz
  have hnI : (n : Int) ≤ 9223372036854775807 := by unfold maxLen at hcm; omega
  clear hnc hcm
  go_enter Try.func94, Try.ntmps94
  go_wp2
  go_loopw [1, 5] (fun kk i wr => ∃ j K : Nat, i = .int .i64 (j : Int) ∧ kk = .int .i64 (K : Int) ∧ Hid (K = k0 + (PT.planS PT.tint w (.slice a j cap)).length) ∧ j ≤ n ∧ Below w.heap.size w wr) (fun _ i _ => n - (intOf i).toNat)
  case atStart => exact ⟨0, k0, rfl, rfl, Lib.hid (by rw [PT.planS_zero]; rfl), Nat.zero_le _, Below.refl _ _⟩
  case round =>
    obtain ⟨j, K, rfl, rfl, HK, hj, hb⟩ := hrel
    by_cases hlt : j < n
    · have hlt2 : (j : Int) < (n : Int) := by omega
      obtain ⟨b, o, rfl, hbw, hLe, hc⟩ := R.out (by omega)
      have hKK := HK.out
      replace hKK : K = k0 + ((PT.rows PT.tint j).plan w b o).length := hKK
      have hrl := PT.rows_len_le PT.tint w b o hlt
      have hA := hc j hlt
      rw [← hKK] at hA
      obtain ⟨Lj, hLj⟩ : ∃ Lj, (PT.tint.plan w b (o + j * PT.tint.size)).length = Lj := ⟨_, rfl⟩
      rw [hLj] at hA hrl
      have HN : Hid (∀ K2, K2 = K + Lj → K2 = k0 + (PT.planS PT.tint w (.slice (some ⟨b, o, none⟩) (j + 1) cap)).length) := Lib.hid fun K2 hk => by
        show K2 = k0 + ((PT.rows PT.tint (j + 1)).plan w b o).length
        rw [PT.rows_snoc, List.length_append, hLj]; omega
      have hKj : K + Lj ≤ 1073741824 := by have := HL.out; omega
      obtain ⟨g, ok, hnd, hbl, hmk, hlen⟩ := hA.below hb
      clear hA hc hLe hrl hLj hKK
      have hj1 : o + j * PT.tint.size = o + j := by rw [show PT.tint.size = 1 from rfl, Nat.mul_one]
      rw [hj1] at ok hmk hlen
      obtain ⟨⟨uv0, d0⟩, rfl⟩ := ok
      replace d0 : wr.cell? ⟨b, o + j, none⟩ = some uv0 := d0
      replace hmk : Marked wr ([(⟨b, o + j, none⟩, MK.int)] : List (Addr × MK)) K := hmk
      replace hlen : ([(⟨b, o + j, none⟩, MK.int)] : List (Addr × MK)).length = Lj := hlen
      simp only [List.length_append, List.length_cons, List.length_nil] at hlen
      have e0 : wr.cell? ⟨b, o + j, none⟩ = some (.int .i64 ((K : Int))) := (hmk).one
      have hKt : K + 1 ≤ 1073741824 := by omega
      have hK0 : 0 < K := by have := HK.out; omega
      have hK0I : (0 : Int) ≤ (K : Int) := by omega
      have hgl : b < wr.heap.size := hbl
      have HT : Hid ((K + 1) = K + Lj) := Lib.hid (by omega)
      clear hmk hlen hnd d0
      go_wp2
      go_roundw
      case rel => exact ⟨j + 1, (K + 1), by go_num, by go_num, Lib.hid (HN.out _ HT.out), by omega, hb⟩
      case measure => simp [intOf]; omega
    · have hlt2 : (n : Int) ≤ (j : Int) := by omega
      obtain rfl : j = n := by omega
      go_wp2
      go_ret
      refine ⟨ret_int ?_, hb⟩
      rw [HK.out]
      by_cases hj0 : j = 0
      · subst hj0
        rw [PT.planS_zero, HZ.out rfl]; rfl
      · obtain ⟨b, o, rfl, _, hLe, _⟩ := R.out (by omega)
        rw [hLe]; rfl

end Go.Proofs.Ytbkhooklieangaa
