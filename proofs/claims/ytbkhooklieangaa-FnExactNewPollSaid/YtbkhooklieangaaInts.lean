/- Lists of ints: copied, compared. -/
import Derived.Test.YtbkhooklieangaaRowd
namespace Go.Proofs.Ytbkhooklieangaa
open Go.RowKit

theorem opensIntS {H : Type} {enc : TypeId × Value → H} {w : World} : Opens enc Try.prog w (Cod.slice Cod.int) 22 := opens_slice Try.underlying22 (by kernel_rfl) opensInt (by decide)

theorem Try_infoI_int : (Try.prog.info? 3).map (fun i => (i.zero, i.size, i.bytes)) = some (some (.int .i64 0), 1, 8) := by kernel_rfl

theorem at_int {w : World} {g o : Nat} {x : Int} (h : At Cod.int w g o x) : w.cell? ⟨g, o, none⟩ = some (.int .i64 x) ∧ I64 x := by
  obtain ⟨f, h0, h1, _⟩ := h
  exact ⟨h0, h1⟩

set_option maxRecDepth 100000 in
set_option maxHeartbeats 800000 in
/-- laws.toIntS -/
theorem toIntS_any (v : Value) (l : List Int) (hl : l.length ≤ 1048576) (w : World) (h : Rd Cod.int w v l) :
    Calls Try.prog 8 #[v] w fun e w' => ∃ v', e = .returned v' ∧ Own Cod.int w' w.heap.size v' l ∧ Below w.heap.size w w' := by
  obtain ⟨i0, hi, hz0, hz1, hz2⟩ := info_parts Try_infoI_int
  obtain ⟨p, c, rfl, hlc, hcm, r⟩ := h.form
  have R := Lib.hid r
  clear r h hlc hcm
  obtain ⟨n, hn⟩ : ∃ n : Nat, l.length = n := ⟨_, rfl⟩
  have Hn := Lib.hid hn
  have hnb : (n : Int) ≤ 1048576 := by omega
  rw [hn]
  clear hn hl
  have hb16 : i0.bytes * n ≤ 281474976710656 := by rw [hz2]; omega
  go_enter Try.func8, Try.ntmps8
  go_wp2_with (refine wpList_make_full w rfl _ _ 22 (by rfl) w.heap.size 3 i0 (.int .i64 0) 1 Try.underlying22 hi hz0 hz1 .i64 .i64 (n : Int) (n : Int) n (by rfl) (by rfl) rfl rfl hb16 (by unfold maxLen; omega) (Nat.le_refl _) ?_)
  intro w1 hown1 hg1
  have P1 := Lib.hid (part_start (c := Cod.int) (show w1.ownsRow w.heap.size 3 Cod.int.size (.slice (some ⟨w.heap.size, 0, none⟩) n n) n _ from hown1))
  have hb1 : Below w.heap.size w w1 := Below.grown (Below.refl _ _) hg1 (Nat.le_refl _) (by simp)
  clear hown1 hg1 hb16 hi hz0 hz1 hz2
  go_wp2
  go_loopw [4] (fun i wr => ∃ k : Nat, i = .int .i64 (k : Int) ∧ k ≤ n ∧ Hid (Part Cod.int wr w.heap.size 3 (.slice (some ⟨w.heap.size, 0, none⟩) n n) n (l.take k)) ∧ Below w.heap.size w wr) (fun i _ => n - (intOf i).toNat)
  case atStart => exact ⟨0, rfl, Nat.zero_le _, Lib.hid ⟨_, P1.out⟩, hb1⟩
  case round =>
    obtain ⟨k, rfl, hk, Hp, hb⟩ := hrel
    by_cases hlt : k < n
    · have hlt2 : (k : Int) < (n : Int) := by omega
      have hkl : k < l.length := by have := Hn.out; omega
      have hktl : (l.take k).length = k := by rw [List.length_take]; omega
      obtain ⟨g, o, rfl, hg, hc⟩ := R.out (by have := Hn.out; omega)
      have at0 := (hc k hkl).below hg hb
      have Ht := Lib.hid (List.take_succ_eq_append_getElem hkl)
      obtain ⟨x, es⟩ : ∃ x, l[k] = x := ⟨_, rfl⟩
      rw [es] at at0 Ht
      clear hc es hkl
      obtain ⟨d0, hx⟩ := at_int at0
      rw [show o + k * Cod.int.size = o + k from by rw [show Cod.int.size = 1 from rfl, Nat.mul_one]] at d0
      clear at0
      obtain ⟨cells, Pc⟩ := Hp.out
      have hgl : g < wr.heap.size := Nat.lt_of_lt_of_le hg hb.size
      obtain ⟨fs, hown, _⟩ := id Pc
      replace hown : wr.ownsRow w.heap.size 3 1 (.slice (some ⟨w.heap.size, 0, none⟩) n n) n cells := hown
      have hlen : cells.length = n * 1 := hown.1
      obtain ⟨old0, g0⟩ : ∃ u, wr.cell? ⟨w.heap.size, k, none⟩ = some u := ⟨_, by rw [hown.cellAt _ (by omega), List.getElem?_eq_getElem (by omega)]⟩
      have y0 := hown.frozenAt k
      have Hset := Lib.hid (Pc.set (Below.refl _ _) (vs := [.int .i64 x]) rfl (show Cod.int.rd wr (lst [.int .i64 x]) x [] from ⟨rfl, hx, rfl⟩) (Mine.nil _ _) (by rw [hktl]; exact hlt))
      rw [hktl, ← Ht.out, show k * Cod.int.size = k from by rw [show Cod.int.size = 1 from rfl, Nat.mul_one]] at Hset
      clear hown Pc hktl Ht hx hlen Hp
      go_wp2
      go_roundw
      case rel => exact ⟨k + 1, by go_num, by omega, Hset, below_setCell hb (Nat.le_refl _)⟩
      case measure => simp [intOf]; omega
    · have hlt2 : (n : Int) ≤ (k : Int) := by omega
      obtain rfl : k = n := by omega
      go_wp2
      go_ret
      have hf : l.take k = l := List.take_of_length_le (by have := Hn.out; omega)
      have h3 := Hp.out
      rw [hf] at h3
      exact ⟨_, rfl, h3.own Hn.out, hb⟩

set_option maxRecDepth 100000 in
/-- laws.eqIntS of two lists that are one. -/
theorem eqIntS_any (v1 v2 : Value) (l : List Int) (w : World) (h1 : Rd Cod.int w v1 l) (h2 : Rd Cod.int w v2 l) (hl : l.length ≤ 1048576) :
    Calls Try.prog 11 #[v1, v2] w fun e w' => e = .returned (.bool true) ∧ Below w.heap.size w w' := by
  obtain ⟨p1, c1, rfl, _, _, r1⟩ := h1.form
  obtain ⟨p2, c2, rfl, _, _, r2⟩ := h2.form
  have R1 := Lib.hid r1
  have R2 := Lib.hid r2
  clear r1 r2 h1 h2
  obtain ⟨n, hn⟩ : ∃ n : Nat, l.length = n := ⟨_, rfl⟩
  have Hn := Lib.hid hn
  have hnb : (n : Int) ≤ 1048576 := by omega
  rw [hn]
  clear hn hl
  go_enter Try.func11, Try.ntmps11
  go_wp2
  go_loopw [5] (fun i wr => ∃ k : Nat, i = .int .i64 (k : Int) ∧ k ≤ n ∧ Below w.heap.size w wr) (fun i _ => n - (intOf i).toNat)
  case atStart => exact ⟨0, rfl, Nat.zero_le _, Below.refl _ _⟩
  case round =>
    obtain ⟨k, rfl, hk, hb⟩ := hrel
    by_cases hlt : k < n
    · have hlt2 : (k : Int) < (n : Int) := by omega
      have hkl : k < l.length := by have := Hn.out; omega
      obtain ⟨g1, o1, rfl, hg1, hc1⟩ := R1.out (by have := Hn.out; omega)
      obtain ⟨g2, o2, rfl, hg2, hc2⟩ := R2.out (by have := Hn.out; omega)
      have d1 := (at_int ((hc1 k hkl).below hg1 hb)).1
      have d2 := (at_int ((hc2 k hkl).below hg2 hb)).1
      rw [show o1 + k * Cod.int.size = o1 + k from by rw [show Cod.int.size = 1 from rfl, Nat.mul_one]] at d1
      rw [show o2 + k * Cod.int.size = o2 + k from by rw [show Cod.int.size = 1 from rfl, Nat.mul_one]] at d2
      clear hc1 hc2
      generalize l[k] = s at *
      go_wp2
      go_quiet (fail)
      go_wp2
      go_roundw
      case rel => exact ⟨k + 1, by go_num, by omega, by (repeat (first | (with_reducible exact Below.refl _ _) | (with_reducible refine below_setCell ?_ (by first | (simp; done) | (simp; omega) | omega)) | (with_reducible refine below_alloc _ ?_) | (with_reducible refine below_drewN ?_ _) | (with_reducible assumption) | (with_reducible refine below_after (by assumption) ?_)))⟩
      case measure => simp [intOf]; omega
    · have hlt2 : (n : Int) ≤ (k : Int) := by omega
      go_wp2
      go_ret
      exact ⟨rfl, hb⟩

end Go.Proofs.Ytbkhooklieangaa
