/- eqNet, markNet, heldNet of a net without letters. Printed by mknet.py. -/
import Derived.Test.YtbkhooklieangaaNet3
import Derived.Test.YtbkhooklieangaaLawM
import Derived.Test.YtbkhooklieangaaMarkInt
import Derived.Test.YtbkhooklieangaaMarkLetter
namespace Go.Proofs.Ytbkhooklieangaa
open Go.RowKit

theorem Turn.after {lo hi : Nat} {w w1 w' : World} (b : Below w.heap.size w w1) (t : Turn lo hi w1 w') : Turn lo hi w w' :=
  ⟨t.os.trans b.os, t.tape.trans b.tape, t.output.trans b.output, Nat.le_trans b.size t.size, fun d h1 h2 => (t.block d (Nat.lt_of_lt_of_le h1 b.size) h2).trans (b.block d h1)⟩
theorem Turn.then {lo hi : Nat} {w w1 w' : World} (t : Turn lo hi w w1) (b : Below w1.heap.size w1 w') : Turn lo hi w w' :=
  ⟨b.os.trans t.os, b.tape.trans t.tape, b.output.trans t.output, Nat.le_trans t.size b.size, fun d h1 h2 => (b.block d (Nat.lt_of_lt_of_le h1 t.size)).trans (t.block d h1 h2)⟩
theorem lenInt (l : List Int) : sumN LInt l ≤ l.length := by
  have := sumN_const LInt 1 (fun _ => Nat.le_refl _) l
  omega

theorem markIntS_l (k0 : Nat) (h0 : 0 < k0) (v : Value) (l : List Int) (lo hi : Nat) (u : World) (h : OwnIn Cod.int u lo hi v l) (hL : k0 + sumN LInt l ≤ 1073741824) :
    Calls Try.prog 12 #[v, .int .i64 (k0 : Int)] u fun e u' => e = .returned (.int .i64 ((k0 + sumN LInt l : Nat) : Int)) ∧ HeldS PT.tint u' v k0 (sumN LInt l) ∧ Turn lo hi u u' := by
  obtain ⟨fp, h1, h2, h3, h4⟩ := h.marked fitsInt
  refine (markIntS_p k0 h0 v fp u h1 h2 (by rw [h3]; exact hL)).mono ?_
  rintro e u' ⟨rfl, hs⟩
  exact ⟨by rw [h3], h4 u' k0 hs⟩

theorem okS_nil (p : PT) (w : World) : PT.okS p w (.slice none 0 0) [] := ⟨none, 0, 0, rfl, Nat.le_refl _, Nat.zero_le _, fun _ => rfl, Or.inl ⟨rfl, rfl⟩⟩
theorem markLetterS_nil (k0 : Nat) (h0 : 0 < k0) (hL : k0 ≤ 1073741824) (w : World) :
    Calls Try.prog 93 #[.slice none 0 0, .int .i64 (k0 : Int)] w fun e w' => e = .returned (.int .i64 (k0 : Int)) ∧ Below w.heap.size w w' := by
  refine (markLetterS_p k0 h0 (.slice none 0 0) [] w (okS_nil _ w) (Mine.nil _ _) (by rw [PT.planS_zero]; exact hL)).mono ?_
  rintro e w' ⟨rfl, hs⟩
  rw [PT.planS_zero] at hs
  exact ⟨by rw [PT.planS_zero]; rfl, hs.start⟩
theorem heldLetterS_nil (k0 : Nat) (h0 : 0 < k0) (hL : k0 ≤ 1073741824) (w : World) :
    Calls Try.prog 95 #[.slice none 0 0, .int .i64 (k0 : Int)] w fun e w' => e = .returned (.int .i64 (k0 : Int)) ∧ Below w.heap.size w w' :=
  heldLetterS_p k0 h0 (.slice none 0 0) 0 w ⟨[], okS_nil _ w, List.nodup_nil, (fun i hi => by rw [PT.planS_zero] at hi; cases hi), by rw [PT.planS_zero]; rfl⟩ hL

set_option maxRecDepth 100000 in
theorem eqLetterS_nil (w : World) : Calls Try.prog 91 #[.slice none 0 0, .slice none 0 0] w fun e w' => e = .returned (.bool true) ∧ w = w' := by
  go_enter Try.func91, Try.ntmps91
  go_wp2
  go_loop [5] (fun i => i = .int .i64 0) (fun _ => 0)
  case atStart => rfl
  case round =>
    subst hrel
    go_wp2
    go_ret
    exact ⟨rfl, rfl⟩

set_option maxRecDepth 100000 in
/-- laws.eqNet -/
theorem eqNet_any (a b : Value) (l : List Int) (f : Int) (hl : l.length ≤ 1048576) (w : World) (ha : Rd Cod.int w a l) (hb : Rd Cod.int w b l) :
    Calls Try.prog 39 #[.agg #[.int .i64 0, a, .int .i64 f, .slice none 0 0], .agg #[.int .i64 0, b, .int .i64 f, .slice none 0 0]] w fun e w' => e = .returned (.bool true) ∧ Below w.heap.size w w' := by
  have Hc := Lib.hid (fun (W : World) (k : Below w.heap.size w W) => eqIntS_any a b l W (ha.below k) (hb.below k) hl)
  have Hn := Lib.hid (fun W => eqLetterS_nil W)
  obtain ⟨p1, c1, rfl, -⟩ := ha.form
  obtain ⟨p2, c2, rfl, -⟩ := hb.form
  clear ha hb
  generalize l.length = n at *
  go_enter Try.func39, Try.ntmps39
  go_wp2_with fail
  refine (Hc.out _ (by (repeat (first | (with_reducible exact Below.refl _ _) | (with_reducible refine below_setCell ?_ (by first | (simp; done) | (simp; omega) | omega)) | (with_reducible refine below_alloc _ ?_) | (with_reducible refine below_drewN ?_ _) | (with_reducible assumption) | (with_reducible refine below_after (by assumption) ?_))))).mono ?_
  rintro e w1 ⟨rfl, k1⟩
  have hx1 := bcell k1
  have q0 : w.heap.size < w1.heap.size := by have := k1.size; simp at this; omega
  have q1 : w.heap.size + 1 < w1.heap.size := by have := k1.size; simp at this; omega
  have b1 : Below w.heap.size w w1 := below_after k1 (by (repeat (first | (with_reducible exact Below.refl _ _) | (with_reducible refine below_setCell ?_ (by first | (simp; done) | (simp; omega) | omega)) | (with_reducible refine below_alloc _ ?_) | (with_reducible refine below_drewN ?_ _) | (with_reducible assumption) | (with_reducible refine below_after (by assumption) ?_))))
  clear k1
  go_wp2_with fail
  refine (Hn.out _).mono ?_
  rintro e w2 ⟨rfl, rfl⟩
  go_wp2
  go_ret
  exact ⟨rfl, b1⟩

set_option maxRecDepth 100000 in
/-- laws.markNet -/
theorem markNet_l (k0 : Nat) (h0 : 0 < k0) (v : Value) (l : List Int) (f : Int) (lo hi : Nat) (u : World) (h : OwnIn Cod.int u lo hi v l) (hhi : hi ≤ u.heap.size) (hL : k0 + sumN LInt l ≤ 1073741824) :
    Calls Try.prog 42 #[.agg #[.int .i64 0, v, .int .i64 f, .slice none 0 0], .int .i64 (k0 : Int)] u fun e u' => e = .returned (.int .i64 ((k0 + sumN LInt l : Nat) : Int)) ∧ HeldS PT.tint u' v k0 (sumN LInt l) ∧ Turn lo hi u u' := by
  have Hc := Lib.hid (fun (W : World) (k : Below u.heap.size u W) => markIntS_l k0 h0 v l lo hi W (h.below k) hL)
  obtain ⟨p, c, rfl, -⟩ := h.rd.form
  clear h
  obtain ⟨K, hK⟩ : ∃ K, k0 + sumN LInt l = K := ⟨_, rfl⟩
  generalize sumN LInt l = L at *
  rw [hK] at Hc hL
  rw [hK]
  have Hn := Lib.hid (fun W => markLetterS_nil K (by omega) hL W)
  clear hK
  generalize l.length = n at *
  go_enter Try.func42, Try.ntmps42
  go_wp2_with fail
  refine (Hc.out _ (by (repeat (first | (with_reducible exact Below.refl _ _) | (with_reducible refine below_setCell ?_ (by first | (simp; done) | (simp; omega) | omega)) | (with_reducible refine below_alloc _ ?_) | (with_reducible refine below_drewN ?_ _) | (with_reducible assumption) | (with_reducible refine below_after (by assumption) ?_))))).mono ?_
  rintro e w1 ⟨rfl, hh, t1⟩
  have c3 : w1.cell? ⟨u.heap.size, 3, none⟩ = some (.slice none 0 0) := t1.cell (by simp [go_sem]) (Or.inr hhi)
  have T1 : Hid (Turn lo hi u w1) := Lib.hid (Turn.after (by (repeat (first | (with_reducible exact Below.refl _ _) | (with_reducible refine below_setCell ?_ (by first | (simp; done) | (simp; omega) | omega)) | (with_reducible refine below_alloc _ ?_) | (with_reducible refine below_drewN ?_ _) | (with_reducible assumption) | (with_reducible refine below_after (by assumption) ?_)))) t1)
  clear t1
  go_wp2_with fail
  refine (Hn.out _).mono ?_
  rintro e w2 ⟨rfl, k2⟩
  go_wp2
  go_ret
  exact ⟨rfl, hh.below k2, T1.out.then k2⟩

set_option maxRecDepth 100000 in
/-- laws.heldNet -/
theorem heldNet_any (k0 : Nat) (h0 : 0 < k0) (v : Value) (f : Int) (L : Nat) (u : World) (h : HeldS PT.tint u v k0 L) (hL : k0 + L ≤ 1073741824) :
    Calls Try.prog 45 #[.agg #[.int .i64 0, v, .int .i64 f, .slice none 0 0], .int .i64 (k0 : Int)] u fun e u' => e = .returned (.int .i64 ((k0 + L : Nat) : Int)) ∧ Below u.heap.size u u' := by
  have Hc := Lib.hid (fun (W : World) (k : Below u.heap.size u W) => heldIntS_p k0 h0 v L W (h.below k) hL)
  obtain ⟨p, n, c, rfl, -⟩ := h.form
  clear h
  obtain ⟨K, hK⟩ : ∃ K, k0 + L = K := ⟨_, rfl⟩
  rw [hK] at Hc hL
  rw [hK]
  have Hn := Lib.hid (fun W => heldLetterS_nil K (by omega) hL W)
  have hKn : (0 : Int) ≤ (K : Int) := by omega
  clear hK
  go_enter Try.func45, Try.ntmps45
  go_wp2_with fail
  refine (Hc.out _ (by (repeat (first | (with_reducible exact Below.refl _ _) | (with_reducible refine below_setCell ?_ (by first | (simp; done) | (simp; omega) | omega)) | (with_reducible refine below_alloc _ ?_) | (with_reducible refine below_drewN ?_ _) | (with_reducible assumption) | (with_reducible refine below_after (by assumption) ?_))))).mono ?_
  rintro e w1 ⟨rfl, k1⟩
  have c3 : w1.cell? ⟨u.heap.size, 3, none⟩ = some (.slice none 0 0) := by rw [(bcell k1).1 _ _ (by simp)]; simp [go_sem]
  have b1 : Below u.heap.size u w1 := below_after k1 (by (repeat (first | (with_reducible exact Below.refl _ _) | (with_reducible refine below_setCell ?_ (by first | (simp; done) | (simp; omega) | omega)) | (with_reducible refine below_alloc _ ?_) | (with_reducible refine below_drewN ?_ _) | (with_reducible assumption) | (with_reducible refine below_after (by assumption) ?_))))
  clear k1
  go_wp2_with fail
  refine (Hn.out _).mono ?_
  rintro e w2 ⟨rfl, k2⟩
  go_wp2
  go_ret
  exact ⟨rfl, below_after k2 b1⟩

end Go.Proofs.Ytbkhooklieangaa
