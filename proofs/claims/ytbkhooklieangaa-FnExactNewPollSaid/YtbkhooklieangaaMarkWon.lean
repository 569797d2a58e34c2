/- laws.markWonS, laws.heldWonS. Printed by mkmark.py. -/
import Derived.Test.YtbkhooklieangaaPlanT
namespace Go.Proofs.Ytbkhooklieangaa
open Go.RowKit

set_option maxRecDepth 100000 in
set_option maxHeartbeats 1600000 in
/-- laws.markWonS -/
theorem markWonS_p (k0 : Nat) (h0 : 0 < k0) (v : Value) (fp : List Nat) (w : World) (h : PT.okS PT.twon w v fp) (hm : Mine w 0 fp) (hL : k0 + (PT.planS PT.twon w v).length ≤ 1073741824) :
    Calls Try.prog 43 #[v, .int .i64 (k0 : Int)] w fun e w' => e = .returned (.int .i64 ((k0 + (PT.planS PT.twon w v).length : Nat) : Int)) ∧ Stored w w' (PT.planS PT.twon w v) k0 := by
  obtain ⟨a, n, cap, rfl, hnc, hcm, r⟩ := PT.okS_form h hm
  have R := Lib.hid r
  have HL := Lib.hid hL
  clear r hL h hm
  have hnI : (n : Int) ≤ 9223372036854775807 := by unfold maxLen at hcm; omega
  clear hnc hcm
  go_enter Try.func43, Try.ntmps43
  go_wp2
  go_loopw [1, 5] (fun kk i wr => ∃ j K : Nat, i = .int .i64 (j : Int) ∧ kk = .int .i64 (K : Int) ∧ Hid (K = k0 + (PT.planS PT.twon w (.slice a j cap)).length) ∧ j ≤ n ∧ Hid (Stored w wr (PT.planS PT.twon w (.slice a j cap)) k0)) (fun _ i _ => n - (intOf i).toNat)
  case atStart => exact ⟨0, k0, rfl, rfl, Lib.hid (by rw [PT.planS_zero]; rfl), Nat.zero_le _, Lib.hid (by rw [PT.planS_zero]; exact stored_refl _ _)⟩
  case round =>
    obtain ⟨j, K, rfl, rfl, HK, hj, HS⟩ := hrel
    by_cases hlt : j < n
    · have hlt2 : (j : Int) < (n : Int) := by omega
      obtain ⟨b, o, f, rfl, hb, hok, hmf⟩ := R.out (by omega)
      obtain ⟨g, ok, mine, hpl⟩ := round_open hok hb hmf hlt HS.out
      have hrl := PT.rows_len_le PT.twon w b o hlt
      obtain ⟨f0, f0r, rfl, ⟨⟨uv0, d0⟩, rfl⟩, ⟨⟨uv1, d1⟩, rfl⟩⟩ := ok
      replace d0 : wr.cell? ⟨b, o + j * 2, none⟩ = some uv0 := d0
      replace d1 : wr.cell? ⟨b, o + j * 2 + 1, none⟩ = some uv1 := d1
      try simp only [List.nil_append, List.append_nil] at mine
      have hQ : ([] : List (Addr × MK)) ++ [(⟨b, o + j * 2, none⟩, MK.int)] ++ [(⟨b, o + j * 2 + 1, none⟩, MK.int)] = PT.twon.plan w b (o + j * PT.twon.size) := by rw [← hpl]; rfl
      have hql : (PT.twon.plan w b (o + j * PT.twon.size)).length = 2 := by rw [← hQ]; simp only [List.length_append, List.length_cons, List.length_nil] <;> omega
      have HR : Hid (∀ K2 w2, Stored wr w2 (([] : List (Addr × MK)) ++ [(⟨b, o + j * 2, none⟩, MK.int)] ++ [(⟨b, o + j * 2 + 1, none⟩, MK.int)]) K → K2 = K + (2) → K2 = k0 + (PT.planS PT.twon w (.slice (some ⟨b, o, none⟩) (j + 1) cap)).length ∧ Stored w w2 (PT.planS PT.twon w (.slice (some ⟨b, o, none⟩) (j + 1) cap)) k0) := Lib.hid fun K2 w2 hs hk => by
        have hKK := HK.out
        replace hKK : K = k0 + ((PT.rows PT.twon j).plan w b o).length := hKK
        refine ⟨?_, round_close hok hmf hlt HS.out (hKK ▸ hs) hQ⟩
        show K2 = k0 + ((PT.rows PT.twon (j + 1)).plan w b o).length
        rw [PT.rows_snoc, List.length_append, hql]; omega
      have hKb : (K : Int) + ((2 : Nat) : Int) ≤ 1073741824 := by
        have h1 := HK.out; replace h1 : K = k0 + ((PT.rows PT.twon j).plan w b o).length := h1
        have h2 := HL.out; replace h2 : k0 + ((PT.rows PT.twon n).plan w b o).length ≤ 1073741824 := h2
        omega
      have hK0 : 0 < K := by have := HK.out; omega
      have hK0I : (0 : Int) ≤ (K : Int) := by omega
      have fr := mine.free b List.mem_cons_self
      have z0 := fr (o + j * 2)
      have z1 := fr (o + j * 2 + 1)
      have HF := Lib.hid fr
      clear hql hQ hpl hrl hok hmf fr mine
      have S0 := Lib.hid (stored_refl wr K)
      have D0 := Lib.hid d0
      have D1 := Lib.hid d1
      have S1 : Hid (Stored wr (wr.setCell ⟨b, o + j * 2, none⟩ (.int .i64 ((K : Int)))) (([] : List (Addr × MK)) ++ [(⟨b, o + j * 2, none⟩, MK.int)]) K) := Lib.hid (Stored.put (n := K) .int S0.out (Below.refl _ _) D0.out (notIn_nil _) (by simp only [List.length_append, List.length_cons, List.length_nil] <;> (omega)))
      have S2 : Hid (Stored wr ((wr.setCell ⟨b, o + j * 2, none⟩ (.int .i64 ((K : Int)))).setCell ⟨b, o + j * 2 + 1, none⟩ (.int .i64 ((K : Int) + 1))) (([] : List (Addr × MK)) ++ [(⟨b, o + j * 2, none⟩, MK.int)] ++ [(⟨b, o + j * 2 + 1, none⟩, MK.int)]) K) := Lib.hid (Stored.put (n := (K + 1)) .int S1.out (Below.refl _ _) D1.out (notIn_snoc (notIn_nil _) (fun e => by injection e; omega)) (by simp only [List.length_append, List.length_cons, List.length_nil] <;> (omega)))
      obtain ⟨hE1, hE2⟩ := HR.out (K + 2) _ S2.out (by  omega)
      have HE1 := Lib.hid hE1
      have HE2 := Lib.hid hE2
      clear hE1 hE2
      go_wp2
      go_roundw
      case rel => exact ⟨j + 1, (K + 2), by go_num, by go_num, HE1, by omega, HE2⟩
      case measure => simp [intOf]; omega
    · have hlt2 : (n : Int) ≤ (j : Int) := by omega
      obtain rfl : j = n := by omega
      go_wp2
      go_ret
      exact ⟨ret_int (by rw [HK.out]), HS.out⟩

set_option maxRecDepth 100000 in
set_option maxHeartbeats 1600000 in
/-- laws.heldWonS -/
theorem heldWonS_p (k0 : Nat) (h0 : 0 < k0) (v : Value) (L0 : Nat) (w : World) (h : HeldS PT.twon w v k0 L0) (hL : k0 + L0 ≤ 1073741824) :
    Calls Try.prog 46 #[v, .int .i64 (k0 : Int)] w fun e w' => e = .returned (.int .i64 ((k0 + L0 : Nat) : Int)) ∧ Below w.heap.size w w' := by
  obtain ⟨a, n, cap, rfl, hnc, hcm, hz, r⟩ := h.form
  have R := Lib.hid r
  have HL := Lib.hid hL
  have HZ := Lib.hid hz
  clear r hL h hz
  have hnI : (n : Int) ≤ 9223372036854775807 := by unfold maxLen at hcm; omega
  clear hnc hcm
  go_enter Try.func46, Try.ntmps46
  go_wp2
  go_loopw [1, 5] (fun kk i wr => ∃ j K : Nat, i = .int .i64 (j : Int) ∧ kk = .int .i64 (K : Int) ∧ Hid (K = k0 + (PT.planS PT.twon w (.slice a j cap)).length) ∧ j ≤ n ∧ Below w.heap.size w wr) (fun _ i _ => n - (intOf i).toNat)
  case atStart => exact ⟨0, k0, rfl, rfl, Lib.hid (by rw [PT.planS_zero]; rfl), Nat.zero_le _, Below.refl _ _⟩
  case round =>
    obtain ⟨j, K, rfl, rfl, HK, hj, hb⟩ := hrel
    by_cases hlt : j < n
    · have hlt2 : (j : Int) < (n : Int) := by omega
      obtain ⟨b, o, rfl, hbw, hLe, hc⟩ := R.out (by omega)
      have hKK := HK.out
      replace hKK : K = k0 + ((PT.rows PT.twon j).plan w b o).length := hKK
      have hrl := PT.rows_len_le PT.twon w b o hlt
      have hA := hc j hlt
      rw [← hKK] at hA
      obtain ⟨Lj, hLj⟩ : ∃ Lj, (PT.twon.plan w b (o + j * PT.twon.size)).length = Lj := ⟨_, rfl⟩
      rw [hLj] at hA hrl
      have HN : Hid (∀ K2, K2 = K + Lj → K2 = k0 + (PT.planS PT.twon w (.slice (some ⟨b, o, none⟩) (j + 1) cap)).length) := Lib.hid fun K2 hk => by
        show K2 = k0 + ((PT.rows PT.twon (j + 1)).plan w b o).length
        rw [PT.rows_snoc, List.length_append, hLj]; omega
      have hKj : K + Lj ≤ 1073741824 := by have := HL.out; omega
      obtain ⟨g, ok, hnd, hbl, hmk, hlen⟩ := hA.below hb
      clear hA hc hLe hrl hLj hKK
      obtain ⟨f0, f0r, rfl, ⟨⟨uv0, d0⟩, rfl⟩, ⟨⟨uv1, d1⟩, rfl⟩⟩ := ok
      replace d0 : wr.cell? ⟨b, o + j * 2, none⟩ = some uv0 := d0
      replace d1 : wr.cell? ⟨b, o + j * 2 + 1, none⟩ = some uv1 := d1
      replace hmk : Marked wr ([(⟨b, o + j * 2, none⟩, MK.int)] ++ ([(⟨b, o + j * 2 + 1, none⟩, MK.int)]) : List (Addr × MK)) K := hmk
      replace hlen : ([(⟨b, o + j * 2, none⟩, MK.int)] ++ ([(⟨b, o + j * 2 + 1, none⟩, MK.int)]) : List (Addr × MK)).length = Lj := hlen
      simp only [List.length_append, List.length_cons, List.length_nil] at hlen
      have e0 : wr.cell? ⟨b, o + j * 2, none⟩ = some (.int .i64 ((K : Int))) := (hmk.left).one
      have q0 : Marked wr _ (K + 1) := hmk.right
      have e1 : wr.cell? ⟨b, o + j * 2 + 1, none⟩ = some (.int .i64 ((K : Int) + 1)) := (q0).one
      have hKt : K + 2 ≤ 1073741824 := by omega
      have hK0 : 0 < K := by have := HK.out; omega
      have hK0I : (0 : Int) ≤ (K : Int) := by omega
      have hgl : b < wr.heap.size := hbl
      have HT : Hid ((K + 2) = K + Lj) := Lib.hid (by omega)
      clear hmk hlen hnd q0 d0 d1
      go_wp2
      go_roundw
      case rel => exact ⟨j + 1, (K + 2), by go_num, by go_num, Lib.hid (HN.out _ HT.out), by omega, hb⟩
      case measure => simp [intOf]; omega
    · have hlt2 : (n : Int) ≤ (j : Int) := by omega
      obtain rfl : j = n := by omega
      go_wp2
      go_ret
      refine ⟨ret_int ?_, hb⟩
      rw [HK.out]
      by_cases hj0 : j = 0
      · subst hj0
        rw [PT.planS_zero, HZ.out rfl]; rfl
      · obtain ⟨b, o, rfl, _, hLe, _⟩ := R.out (by omega)
        rw [hLe]; rfl

end Go.Proofs.Ytbkhooklieangaa
