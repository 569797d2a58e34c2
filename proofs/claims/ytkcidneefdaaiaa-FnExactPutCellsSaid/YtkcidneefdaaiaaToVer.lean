/- laws.toVer, laws.toVerS. Printed by mkdata.py. -/
import Derived.Test.YtkcidneefdaaiaaRowd
namespace Go.Proofs.Ytkcidneefdaaiaa
open Go.RowKit

/-- What toVer gives. -/
def ToVer (x : VerD) (base : Nat) (e : Ending) (w' : World) : Prop :=
  ∃ f, e = .returned (.agg #[.int .i64 x.Time, .string x.Val, .bool x.Gone]) ∧ Cod.ver.rd w' (lst [.int .i64 x.Time, .string x.Val, .bool x.Gone]) x f ∧ Mine w' base f

set_option maxRecDepth 100000 in
set_option maxHeartbeats 1600000 in
/-- laws.toVer -/
theorem toVer_d (x : VerD) (bVal : x.Val.size ≤ maxLen) (zTime : I64 x.Time) (w : World) :
    Calls Try.prog 74 #[.agg #[.int .i64 x.Time, .string x.Val, .bool x.Gone]] w fun e w' => ToVer x w.heap.size e w' ∧ Below w.heap.size w w' := by
  unfold ToVer
  have Hm := Lib.hid (fun W : World => mk_ver (w := W) (g := lst [.int .i64 x.Time, .string x.Val, .bool x.Gone]) (x := x) rfl zTime rfl bVal rfl)
  obtain ⟨xTime, xVal, xGone⟩ := x
  simp only at *
  go_enter Try.func74, Try.ntmps74
  go_wp2
  refine bodyPost_ret (v := .agg #[.int .i64 xTime, .string xVal, .bool xGone]) (by simp [results, Try.results74, go_sem]) rfl ⟨⟨_, rfl, Hm.out _, Mine.nil _ _⟩, ?_⟩
  (repeat (first | exact Below.refl _ _ | exact below_new _ _ | refine below_setCell ?_ (by first | (simp; done) | (simp; omega) | omega) | refine below_alloc _ ?_ | refine below_drewN ?_ _ | refine below_after (by assumption) ?_ | assumption))

theorem Try_info_ver : (Try.prog.info? 77).map (fun i => (i.zero, i.size, i.bytes)) = some (some (.agg #[.int .i64 0, .string ⟨#[]⟩, .bool false]), 3, 32) := by kernel_rfl

set_option maxRecDepth 100000 in
set_option maxHeartbeats 800000 in
/-- laws.toVerS -/
theorem toVerS_any (v : Value) (l : List VerD) (hl : costVerS l ≤ 1048576) (w : World) (h : Rd Cod.ver w v l) :
    Calls Try.prog 57 #[v] w fun e w' => ∃ v', e = .returned v' ∧ Own Cod.ver w' w.heap.size v' l ∧ Below w.heap.size w w' := by
  obtain ⟨i0, hi, hz0, hz1, hz2⟩ := info_parts Try_info_ver
  obtain ⟨p, c, rfl, hlc, hcm, r⟩ := h.form
  have R := Lib.hid r
  clear r h hlc hcm
  have Hc := Lib.hid hl
  obtain ⟨n, hn⟩ : ∃ n : Nat, l.length = n := ⟨_, rfl⟩
  have Hn := Lib.hid hn
  have hnb : (n : Int) ≤ 1048576 := by unfold costVerS at hl; omega
  rw [hn]
  clear hn hl
  have hb16 : i0.bytes * n ≤ 281474976710656 := by rw [hz2]; omega
  go_enter Try.func57, Try.ntmps57
  go_wp2_with (refine wpList_make_full w rfl _ _ 55 (by rfl) w.heap.size 77 i0 (.agg #[.int .i64 0, .string ⟨#[]⟩, .bool false]) 3 Try.underlying55 hi hz0 hz1 .i64 .i64 (n : Int) (n : Int) n (by rfl) (by rfl) rfl rfl hb16 (by unfold maxLen; omega) (Nat.le_refl _) ?_)
  intro w1 hown1 hg1
  have P1 := Lib.hid (part_start (c := Cod.ver) (show w1.ownsRow w.heap.size 77 Cod.ver.size (.slice (some ⟨w.heap.size, 0, none⟩) n n) n _ from hown1))
  have hb1 : Below w.heap.size w w1 := Below.grown (Below.refl _ _) hg1 (Nat.le_refl _) (by simp)
  clear hown1 hg1 hb16 hi hz0 hz1 hz2
  go_wp2
  go_loopw [4] (fun i wr => ∃ k : Nat, i = .int .i64 (k : Int) ∧ k ≤ n ∧ Hid (Part Cod.ver wr w.heap.size 77 (.slice (some ⟨w.heap.size, 0, none⟩) n n) n (l.take k)) ∧ Below w.heap.size w wr) (fun i _ => n - (intOf i).toNat)
  case atStart => exact ⟨0, rfl, Nat.zero_le _, Lib.hid ⟨_, P1.out⟩, hb1⟩
  case round =>
    obtain ⟨k, rfl, hk, Hp, hb⟩ := hrel
    by_cases hlt : k < n
    · have hlt2 : (k : Int) < (n : Int) := by omega
      have hkl : k < l.length := by have := Hn.out; omega
      have hktl : (l.take k).length = k := by rw [List.length_take]; omega
      obtain ⟨g, o, rfl, hg, hc⟩ := R.out (by have := Hn.out; omega)
      have at0 := (hc k hkl).below hg hb
      have Ht := Lib.hid (List.take_succ_eq_append_getElem hkl)
      have hcst := sumC_get costVer l k hkl
      obtain ⟨x, es⟩ : ∃ x, l[k] = x := ⟨_, rfl⟩
      rw [es] at at0 Ht hcst
      have Hl : Hid (costVer x ≤ 1048576) := Lib.hid (by have := Hc.out; unfold costVerS at this; omega)
      clear hc es hkl hcst
      obtain ⟨d0, d1, d2, zTime, zVal⟩ := at_ver at0
      rw [show o + k * Cod.ver.size = o + k * 3 from rfl] at *
      clear at0
      obtain ⟨cells, Pc⟩ := Hp.out
      have Hx := Lib.hid (toVer_d x zVal zTime)
      have Pc := Lib.hid Pc
      clear Hp
      go_wp2_with fail
      refine (Hx.out _).mono ?_
      rintro e w1 ⟨⟨f, rfl, hx, hm⟩, k1⟩
      have hb2 := below_after k1 hb
      have hq := hb2.size
      have Pd := Pc.out.below k1
      obtain ⟨fs, hown, _⟩ := Pd
      replace hown : w1.ownsRow w.heap.size 77 3 (.slice (some ⟨w.heap.size, 0, none⟩) n n) n cells := hown
      have hlen : cells.length = n * 3 := hown.1
      obtain ⟨old0, g0⟩ : ∃ u, w1.cell? ⟨w.heap.size, k * 3, none⟩ = some u := ⟨_, by rw [hown.cellAt _ (by omega), List.getElem?_eq_getElem (by omega)]⟩
      have y0 := hown.frozenAt (k * 3)
      obtain ⟨old1, g1⟩ : ∃ u, w1.cell? ⟨w.heap.size, k * 3 + 1, none⟩ = some u := ⟨_, by rw [hown.cellAt _ (by omega), List.getElem?_eq_getElem (by omega)]⟩
      have y1 := hown.frozenAt (k * 3 + 1)
      obtain ⟨old2, g2⟩ : ∃ u, w1.cell? ⟨w.heap.size, k * 3 + 2, none⟩ = some u := ⟨_, by rw [hown.cellAt _ (by omega), List.getElem?_eq_getElem (by omega)]⟩
      have y2 := hown.frozenAt (k * 3 + 2)
      have Hset := Lib.hid (Pc.out.set k1 (vs := [.int .i64 x.Time, .string x.Val, .bool x.Gone]) rfl hx hm (by rw [hktl]; exact hlt))
      rw [hktl, ← Ht.out] at Hset
      clear hown Pc hktl Ht hx hm hlen
      go_wp2
      go_roundw
      case rel => exact ⟨k + 1, by go_num, by omega, Hset, below_setCell (below_setCell (below_setCell (hb2) (Nat.le_refl _)) (Nat.le_refl _)) (Nat.le_refl _)⟩
      case measure => simp [intOf]; omega
    · have hlt2 : (n : Int) ≤ (k : Int) := by omega
      obtain rfl : k = n := by omega
      go_wp2
      go_ret
      have hf : l.take k = l := List.take_of_length_le (by have := Hn.out; omega)
      have h3 := Hp.out
      rw [hf] at h3
      exact ⟨_, rfl, h3.own Hn.out, hb⟩

end Go.Proofs.Ytkcidneefdaaiaa
