/- What the drawn laws read of their code: vBig, vAt. -/
import Derived.Test.YtkiebgmcjkfpaaaCore
import Derived.Test.YtkiebgmcjkfpaaaRow3
namespace Go.Proofs.Ytkiebgmcjkfpaaa
open Go.RowKit

/-- A byte: one cell. -/
def Cod.u8 : Cod UInt8 := Cod.one (fun b => byteV b) (fun _ => True)

theorem opens_u8 {H : Type} {enc : TypeId × Value → H} {P : Program} {w : World} {t : TypeId} (ht : P.underlying t = some (.int .u8)) (hc : P.cellsOf t = 1) : Opens enc P w Cod.u8 t :=
  ⟨hc, fun _ _ _ h => by
    obtain ⟨n, rfl, _, hw⟩ := DataW.trod_int ht h
    have hw : 0 ≤ n ∧ n ≤ 255 := by simpa [Lit.wf, IntKind.min, IntKind.max, IntKind.signed, IntKind.bits] using hw
    refine ⟨UInt8.ofNat n.toNat, [], ?_, trivial, rfl⟩
    show some (Value.int .u8 n) = some (byteV (UInt8.ofNat n.toNat))
    rw [byteV_ofNat (by omega), Int.toNat_of_nonneg hw.1]⟩

theorem opensBytes {H : Type} {enc : TypeId × Value → H} {w : World} : Opens enc Try.prog w (Cod.slice Cod.u8) 48 := opens_slice Try.underlying48 (by kernel_rfl) (opens_u8 Try.underlying5 (by kernel_rfl)) (by decide)

theorem at_u8 {w : World} {g o : Nat} {x : UInt8} (h : At Cod.u8 w g o x) : w.cell? ⟨g, o, none⟩ = some (byteV x) := by
  obtain ⟨f, h0, _⟩ := h
  exact h0

set_option maxRecDepth 100000 in
/-- laws.vBig -/
theorem vBig_any (p : Option Addr) (n c : Nat) (w : World) (hn : (n : Int) ≤ 9223372036854775807) : Calls Try.prog 27 #[.slice p n c] w fun e w' => e = .returned (.bool (decide (65536 < n))) ∧ w = w' := by
  by_cases h : 65536 < n
  · have h2 : (65536 : Int) < (n : Int) := by omega
    have hd : decide (65536 < n) = true := decide_eq_true h
    rw [hd]
    go_enter Try.func27, Try.ntmps27
    go_wp2
    go_ret
    exact ⟨by simp; try omega, rfl⟩
  · have h2 : (n : Int) ≤ 65536 := by omega
    have hd : decide (65536 < n) = false := decide_eq_false h
    rw [hd]
    go_enter Try.func27, Try.ntmps27
    go_wp2
    go_ret
    exact ⟨by simp; try omega, rfl⟩

/-- What vAt gives. -/
def vAtN (l : List UInt8) (i : Nat) : Nat := match l[i]? with
  | some b => b.toNat
  | none => (i * 7 + l.length) % 256
theorem vAtN_lt (l : List UInt8) (i : Nat) : vAtN l i < 256 := by
  unfold vAtN
  split
  · rename_i b _
    have := b.toNat_lt
    omega
  · omega

set_option maxRecDepth 100000 in
/-- laws.vAt -/
theorem vAt_val (v : Value) (l : List UInt8) (hl : l.length ≤ 65536) (i : Nat) (hi : i ≤ 1048576) (w : World) (h : Rd Cod.u8 w v l) :
    Calls Try.prog 31 #[v, .int .i64 (i : Int)] w fun e w' => e = .returned (.int .i64 (vAtN l i : Int)) ∧ w = w' := by
  obtain ⟨p, c, rfl, _, _, r⟩ := h.form
  have HV : Hid (vAtN l i = vAtN l i) := Lib.hid rfl
  obtain ⟨n, hn⟩ : ∃ n : Nat, l.length = n := ⟨_, rfl⟩
  have hnb : (n : Int) ≤ 65536 := by omega
  have hib : (i : Int) ≤ 1048576 := by omega
  by_cases hlt : i < n
  · obtain ⟨g, o, rfl, hg, hc⟩ := r (by omega)
    have d0 := at_u8 (hc i (by omega))
    rw [show o + i * Cod.u8.size = o + i from by show o + i * 1 = _; omega] at d0
    have hx := (l[i]'(by omega)).toNat_lt
    have Hv : Hid (vAtN l i = (l[i]'(by omega)).toNat) := Lib.hid (by unfold vAtN; rw [List.getElem?_eq_getElem (by omega)])
    generalize vAtN l i = z at *
    generalize l[i]'(by omega) = x at *
    have hlt2 : (i : Int) < (n : Int) := by omega
    have hi0 : (0 : Int) ≤ (i : Int) := by omega
    rw [hn]
    clear hc r hn hl h HV
    unfold byteV at d0
    have hx0 : (0 : Int) ≤ (x.toNat : Int) := by omega
    have hx1 : (x.toNat : Int) < 256 := by omega
    go_enter Try.func31, Try.ntmps31
    go_wp2
    go_ret
    exact ⟨ret_int (by rw [Hv.out]), rfl⟩
  · have hlt2 : (n : Int) ≤ (i : Int) := by omega
    have Hv : Hid ((vAtN l i : Int) = ((i : Int) * 7 + (n : Int)) % 256) := Lib.hid (by
      unfold vAtN
      rw [List.getElem?_eq_none (by omega), hn]
      show (((i * 7 + n) % 256 : Nat) : Int) = _
      omega)
    generalize vAtN l i = z at *
    rw [hn]
    clear r hn hl h HV
    have ht : ((i : Int) * 7 + (n : Int)).tmod 256 = ((i : Int) * 7 + (n : Int)) % 256 := Int.tmod_eq_emod_of_nonneg (by omega)
    go_enter Try.func31, Try.ntmps31
    go_wp2
    go_ret
    exact ⟨ret_int (by rw [Hv.out]), rfl⟩

theorem vAt_any (v : Value) (l : List UInt8) (hl : l.length ≤ 65536) (i : Nat) (hi : i ≤ 1048576) (w : World) (h : Rd Cod.u8 w v l) :
    Calls Try.prog 31 #[v, .int .i64 (i : Int)] w fun e w' => (∃ x : Nat, x < 256 ∧ e = .returned (.int .i64 (x : Int))) ∧ w = w' :=
  (vAt_val v l hl i hi w h).mono fun _ _ ⟨he, hw⟩ => ⟨⟨_, vAtN_lt l i, he⟩, hw⟩

end Go.Proofs.Ytkiebgmcjkfpaaa
