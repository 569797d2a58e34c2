/- laws.eqVoter, laws.eqVoterS of equal data. Printed by mkpoll.py. -/
import Derived.Test.YtbkhooklieangaaDataV
namespace Go.Proofs.Ytbkhooklieangaa
open Go.RowKit

set_option maxRecDepth 100000 in
set_option maxHeartbeats 1600000 in
/-- laws.eqVoter -/
theorem eqVoter_d (x : VoterD) (lYes : x.Yes.length ≤ 1048576) (w : World) (uYes : Value) (ruYes : Rd (Cod.int) w uYes x.Yes) (vYes : Value) (rvYes : Rd (Cod.int) w vYes x.Yes) :
    Calls Try.prog 90 #[.agg #[.bool x.Up, .int .i64 x.Term, .int .i64 x.For, uYes, .bool x.Leads], .agg #[.bool x.Up, .int .i64 x.Term, .int .i64 x.For, vYes, .bool x.Leads]] w fun e w' => e = .returned (.bool true) ∧ Below w.heap.size w w' := by
  obtain ⟨xUp, xTerm, xFor, xYes, xLeads⟩ := x
  simp only at *
  have HYes := Lib.hid (fun (w : World) (r1 : Rd (Cod.int) w uYes xYes) (r2 : Rd (Cod.int) w vYes xYes) => eqIntS_any uYes vYes xYes w r1 r2 lYes)
  go_enter Try.func90, Try.ntmps90
  go_wp2_with fail
  refine (HYes.out _ (ruYes.below (by (repeat (first | exact Below.refl _ _ | exact below_new _ _ | refine below_setCell ?_ (by first | (simp; done) | (simp; omega) | omega) | refine below_alloc _ ?_ | refine below_drewN ?_ _ | refine below_after (by assumption) ?_ | assumption)))) (rvYes.below (by (repeat (first | exact Below.refl _ _ | exact below_new _ _ | refine below_setCell ?_ (by first | (simp; done) | (simp; omega) | omega) | refine below_alloc _ ?_ | refine below_drewN ?_ _ | refine below_after (by assumption) ?_ | assumption))))).mono ?_
  rintro e w1 ⟨rfl, k1⟩
  have b1 : Below w.heap.size w w1 := below_after k1 (by (repeat (first | exact Below.refl _ _ | exact below_new _ _ | refine below_setCell ?_ (by first | (simp; done) | (simp; omega) | omega) | refine below_alloc _ ?_ | refine below_drewN ?_ _ | refine below_after (by assumption) ?_ | assumption)))
  have hx1 := bcell k1
  have q10 : w.heap.size < w1.heap.size := by have := k1.size; first | (simp at this; omega) | omega
  have q11 : w.heap.size + 1 < w1.heap.size := by have := k1.size; first | (simp at this; omega) | omega
  go_wp2
  go_ret
  exact ⟨rfl, by (repeat (first | exact Below.refl _ _ | exact below_new _ _ | refine below_setCell ?_ (by first | (simp; done) | (simp; omega) | omega) | refine below_alloc _ ?_ | refine below_drewN ?_ _ | refine below_after (by assumption) ?_ | assumption))⟩

set_option maxRecDepth 100000 in
set_option maxHeartbeats 800000 in
/-- laws.eqVoterS -/
theorem eqVoterS_any (v1 v2 : Value) (l : List VoterD) (w : World) (h1 : Rd Cod.voter w v1 l) (h2 : Rd Cod.voter w v2 l) (hl : costVoterS l ≤ 1048576) :
    Calls Try.prog 38 #[v1, v2] w fun e w' => e = .returned (.bool true) ∧ Below w.heap.size w w' := by
  obtain ⟨p1, c1, rfl, _, _, r1⟩ := h1.form
  obtain ⟨p2, c2, rfl, _, _, r2⟩ := h2.form
  have R1 := Lib.hid r1
  have R2 := Lib.hid r2
  have Hl := Lib.hid hl
  clear r1 r2 h1 h2
  obtain ⟨n, hn⟩ : ∃ n : Nat, l.length = n := ⟨_, rfl⟩
  have Hn := Lib.hid hn
  have hnb : (n : Int) ≤ 1048576 := by unfold costVoterS at hl; omega
  rw [hn]
  clear hn hl
  go_enter Try.func38, Try.ntmps38
  go_wp2
  go_loopw [5] (fun i wr => ∃ k : Nat, i = .int .i64 (k : Int) ∧ k ≤ n ∧ Below w.heap.size w wr) (fun i _ => n - (intOf i).toNat)
  case atStart => exact ⟨0, rfl, Nat.zero_le _, Below.refl _ _⟩
  case round =>
    obtain ⟨k, rfl, hk, hb⟩ := hrel
    have hbs := hb.size
    by_cases hlt : k < n
    · have hlt2 : (k : Int) < (n : Int) := by omega
      have hkl : k < l.length := by have := Hn.out; omega
      obtain ⟨g1, o1, rfl, hg1, hc1⟩ := R1.out (by have := Hn.out; omega)
      obtain ⟨g2, o2, rfl, hg2, hc2⟩ := R2.out (by have := Hn.out; omega)
      have at1 := (hc1 k hkl).below hg1 hb
      have at2 := (hc2 k hkl).below hg2 hb
      have Hx : Hid (l[k].Yes.length ≤ 1048576) := Lib.hid (by have h1 := Hl.out; have h2 := sumC_get costVoter l k hkl; unfold costVoterS at h1; have hYes : l[k].Yes.length ≤ costVoter l[k] := (by unfold costVoter costIntS; omega); omega)
      obtain ⟨x, es⟩ : ∃ x, l[k] = x := ⟨_, rfl⟩
      rw [es] at at1 at2 Hx
      clear hc1 hc2 es hkl
      obtain ⟨ud0, ud1, ud2, ⟨uYes, ud3, ruYes⟩, ud4, zTerm, zFor⟩ := at_voter at1
      obtain ⟨vd0, vd1, vd2, ⟨vYes, vd3, rvYes⟩, vd4, _, _⟩ := at_voter at2
      rw [show o1 + k * Cod.voter.size = o1 + k * 5 from rfl, show o2 + k * Cod.voter.size = o2 + k * 5 from rfl] at *
      clear at1 at2
      have hg1' : g1 < wr.heap.size := by omega
      have hg2' : g2 < wr.heap.size := by omega
      have Hd := Lib.hid (fun (W : World) (uYes : Value) (r1Yes : Rd (Cod.int) W uYes x.Yes) (vYes : Value) (r2Yes : Rd (Cod.int) W vYes x.Yes) => eqVoter_d x Hx.out W uYes r1Yes vYes r2Yes)
      go_wp2_with fail
      have hx2 := fun (u : World) (b o : Nat) (h : b < wr.heap.size) => ext_cell wr u b o h
      refine wp_region_ext (by kernel_rfl) (by kernel_rfl) wr.heap.size ?_
      repeat (any_goals (go_big_quiet_step ((go_at_call 90; exact calls_ext (by first | (simp; done) | omega | (simp; omega)) (Hd.out _ _ (ruYes.below (ext_below _ _ _)) _ (rvYes.below (ext_below _ _ _)))))))
      refine wpQuiet_nil ?_
      intro w2 hb2
      clear hx2
      go_wp2
      go_roundw
      case rel => exact ⟨k + 1, by go_num, by omega, below_after hb2 hb⟩
      case measure => simp [intOf]; omega
    · have hlt2 : (n : Int) ≤ (k : Int) := by omega
      go_wp2
      go_ret
      exact ⟨rfl, hb⟩

end Go.Proofs.Ytbkhooklieangaa
