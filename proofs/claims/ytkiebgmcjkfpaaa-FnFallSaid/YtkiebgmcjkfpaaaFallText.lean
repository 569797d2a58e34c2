/- laws.vText: a short text. -/
import Derived.Test.YtkiebgmcjkfpaaaDrawn
import Derived.Test.YtkiebgmcjkfpaaaCore
namespace Go.Proofs.Ytkiebgmcjkfpaaa
open Go.RowKit

theorem Try_infoT_u8 : (Try.prog.info? 5).map (fun i => (i.zero, i.size, i.bytes)) = some (some (.int .u8 0), 1, 1) := by kernel_rfl

theorem u8_wrap {x : Nat} (h : x < 256) : IntKind.u8.wrap (x : Int) = (x : Int) := by
  simp [IntKind.wrap, IntKind.bits, IntKind.signed]
  omega

set_option maxRecDepth 100000 in
set_option maxHeartbeats 1600000 in
/-- laws.vText -/
theorem vText_any (v : Value) (l : List UInt8) (hl : l.length ≤ 65536) (i : Nat) (hi : i ≤ 1000) (w : World) (h : Rd Cod.u8 w v l) :
    Calls Try.prog 28 #[v, .int .i64 (i : Int)] w fun e w' => (∃ s : ByteArray, s.size ≤ 8 ∧ e = .returned (.string s)) ∧ Below w.heap.size w w' := by
  obtain ⟨i0, hi0, hz0, hz1, hz2⟩ := info_parts Try_infoT_u8
  have Hv := Lib.hid (fun (W : World) (b : Below w.heap.size w W) (j : Nat) (hj : j ≤ 1048576) => vAt_any v l hl j hj W (h.below b))
  obtain ⟨p, c, rfl, -⟩ := h.form
  have hib : (i : Int) ≤ 1000 := by omega
  clear h hl
  generalize l.length = n at *
  have hu8 : Try.prog.underlying 5 = some (.int .u8) := Try.underlying5
  go_enter Try.func28, Try.ntmps28
  go_wp2
  go_loopw [5, 6] (fun v a wr => ∃ (k : Nat) (bs : List UInt8), a = .int .i64 (k : Int) ∧ k ≤ 8 ∧ bs.length = k ∧ wr.ownsRow w.heap.size 5 1 v k (bs.map byteV) ∧ Below w.heap.size w wr) (fun _ a _ => 9 - (intOf a).toNat)
  case atStart => exact ⟨0, [], rfl, by omega, rfl, World.ownsRow_made _ _ _ (Nat.le_refl _) (by simp) rfl, below_new _ _⟩
  case round =>
    obtain ⟨k, bs, rfl, hk, hbl, hown, hb⟩ := hrel
    have hbs := hb.size
    have Hroom : Hid ((k + 1) * 1 ≤ room) := Lib.hid (by unfold room; omega)
    have Hv2 : Hid (∀ W, Below w.heap.size w W → Calls Try.prog 31 #[.slice p n c, .int .i64 ((i : Int) + (k : Int) + 1)] W fun e w' => (∃ x : Nat, x < 256 ∧ e = .returned (.int .i64 (x : Int))) ∧ W = w') := Lib.hid fun W b => by
      have := Hv.out W b (i + k + 1) (by omega)
      rwa [show ((i + k + 1 : Nat) : Int) = (i : Int) + (k : Int) + 1 from by omega] at this
    have hkb : (k : Int) ≤ 8 := by omega
    go_wp2_with fail
    refine (Hv.out _ hb i (by omega)).mono ?_
    rintro e w1 ⟨⟨x, hx, rfl⟩, rfl⟩
    obtain ⟨z, hz⟩ : ∃ z : Nat, x % 9 = z := ⟨_, rfl⟩
    have hz9 : z < 9 := by omega
    have hzi : (x : Int) % 9 = (z : Int) := by omega
    have hx0 : (0 : Int) ≤ (x : Int) := by omega
    have hzt : (x : Int).tmod 9 = (z : Int) := by rw [Int.tmod_eq_emod_of_nonneg hx0]; exact hzi
    clear hz hzi hx
    by_cases hlt : k < z
    · have hlt2 : (k : Int) < (z : Int) := by omega
      go_wp2_with fail
      refine (Hv2.out _ hb).mono ?_
      rintro e w1 ⟨⟨y, hy, rfl⟩, rfl⟩
      have hw := u8_wrap hy
      have hyb := byteV_ofNat hy
      go_wp2_with (at_builtin; refine wpList_append_one wr rfl _ _ 48 (by rfl) w.heap.size 5 i0 (.int .u8 0) 1 1 Try.underlying48 hi0 hz0 hz1 hz2 rfl (by decide) (by decide) _ _ _ (by rfl) hown [.int .u8 (y : Int)] rfl (by rfl) (by simp [Value.oneCell']) Hroom.out hbs ?_)
      intro v' w3 hown3 _ hb3
      have Ho := Lib.hid hown3
      clear hown3 hown
      go_wp2
      go_roundw
      case rel => exact ⟨k + 1, bs ++ [UInt8.ofNat y], by go_num, by omega, by simp [hbl], by rw [List.map_append, List.map_cons, List.map_nil, hyb]; exact Ho.out, hb.trans hb3⟩
      case measure => simp [intOf]; omega
    · have hlt2 : (z : Int) ≤ (k : Int) := by omega
      have hcv := convert_owned (src := 48) (dst := 9) Try.underlying48 Try.underlying5 Try.underlying9 hown
      clear hown
      go_wp2
      go_ret
      exact ⟨⟨⟨bs.toArray⟩, by show bs.toArray.size ≤ 8; simp; omega, rfl⟩, hb⟩

end Go.Proofs.Ytkiebgmcjkfpaaa
