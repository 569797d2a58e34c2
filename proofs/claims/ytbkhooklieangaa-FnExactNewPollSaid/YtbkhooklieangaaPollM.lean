/- laws.eqPoll, laws.markPoll, laws.heldPoll. Printed by mkpoll.py. -/
import Derived.Test.YtbkhooklieangaaPoll2
import Derived.Test.YtbkhooklieangaaEqVoter
import Derived.Test.YtbkhooklieangaaMarkVoter
import Derived.Test.YtbkhooklieangaaMarkWon
namespace Go.Proofs.Ytbkhooklieangaa
open Go.RowKit

def LVoter (x : VoterD) : Nat := 1 + (1 + (1 + (sumN LInt x.Yes + 1)))
theorem fitsVoter : Fits Cod.voter PT.tvoter LVoter := Fits.via (Fits.pair (fits_one _ _ _) (Fits.pair (fits_one _ _ _) (Fits.pair (fits_one _ _ _) (Fits.pair (Fits.slice fitsInt) (fits_one _ _ _))))) _
theorem lenVoters : ∀ n : Nat, sumN LVoter (List.replicate n voter0) = 4 * n
  | 0 => rfl
  | n + 1 => by
    show LVoter voter0 + sumN LVoter (List.replicate n voter0) = _
    rw [lenVoters n]
    show 4 + 4 * n = _
    omega
theorem costVoters (n : Nat) : costVoterS (List.replicate n voter0) = n := by
  have h : ∀ n : Nat, sumC costVoter (List.replicate n voter0) = 0 := fun n => by
    induction n with
    | zero => rfl
    | succ n ih =>
      show costVoter voter0 + sumC costVoter (List.replicate n voter0) = 0
      rw [ih]
      rfl
  unfold costVoterS
  rw [h, List.length_replicate, Nat.add_zero]

theorem okS_void (p : PT) (w : World) (a : Option Addr) : PT.okS p w (.slice a 0 0) [] := ⟨a, 0, 0, rfl, Nat.le_refl _, Nat.zero_le _, fun _ => rfl, Or.inl ⟨rfl, rfl⟩⟩
theorem markWonS_nil (k0 : Nat) (h0 : 0 < k0) (hL : k0 ≤ 1073741824) (a : Option Addr) (w : World) :
    Calls Try.prog 43 #[.slice a 0 0, .int .i64 (k0 : Int)] w fun e w' => e = .returned (.int .i64 (k0 : Int)) ∧ Below w.heap.size w w' := by
  refine (markWonS_p k0 h0 (.slice a 0 0) [] w (okS_void _ w a) (Mine.nil _ _) (by rw [PT.planS_zero]; exact hL)).mono ?_
  rintro e w' ⟨rfl, hs⟩
  rw [PT.planS_zero] at hs
  exact ⟨by rw [PT.planS_zero]; rfl, hs.start⟩
theorem heldWonS_nil (k0 : Nat) (h0 : 0 < k0) (hL : k0 ≤ 1073741824) (a : Option Addr) (w : World) :
    Calls Try.prog 46 #[.slice a 0 0, .int .i64 (k0 : Int)] w fun e w' => e = .returned (.int .i64 (k0 : Int)) ∧ Below w.heap.size w w' :=
  heldWonS_p k0 h0 (.slice a 0 0) 0 w ⟨[], okS_void _ w a, List.nodup_nil, (fun i hi => by rw [PT.planS_zero] at hi; cases hi), by rw [PT.planS_zero]; rfl⟩ hL

set_option maxRecDepth 100000 in
theorem eqWonS_nil (a b : Option Addr) (w : World) : Calls Try.prog 40 #[.slice a 0 0, .slice b 0 0] w fun e w' => e = .returned (.bool true) ∧ w = w' := by
  go_enter Try.func40, Try.ntmps40
  go_wp2
  go_loop [5] (fun i => i = .int .i64 0) (fun _ => 0)
  case atStart => rfl
  case round =>
    subst hrel
    go_wp2
    go_ret
    exact ⟨rfl, rfl⟩

set_option maxRecDepth 100000 in
set_option maxHeartbeats 1600000 in
/-- laws.eqPoll -/
theorem eqPoll_any (a b x y : Value) (vs : List VoterD) (l : List Int) (f : Int) (pw pw' : Option Addr) (hv : costVoterS vs ≤ 1048576) (hl : l.length ≤ 1048576) (w : World) (ha : Rd Cod.voter w a vs) (hb : Rd Cod.voter w b vs) (hx : Rd Cod.int w x l) (hy : Rd Cod.int w y l) :
    Calls Try.prog 10 #[.agg #[a, .int .i64 0, x, .int .i64 f, .slice none 0 0, .slice pw 0 0], .agg #[b, .int .i64 0, y, .int .i64 f, .slice none 0 0, .slice pw' 0 0]] w fun e w' => e = .returned (.bool true) ∧ Below w.heap.size w w' := by
  have Hv := Lib.hid (fun (W : World) (k : Below w.heap.size w W) => eqVoterS_any a b vs W (ha.below k) (hb.below k) hv)
  have Hn := Lib.hid (fun (W : World) (k : Below w.heap.size w W) => eqNet_any x y l f hl W (hx.below k) (hy.below k))
  have Hw := Lib.hid (fun W => eqWonS_nil pw pw' W)
  obtain ⟨p1, c1, rfl, -⟩ := ha.form
  obtain ⟨p2, c2, rfl, -⟩ := hb.form
  obtain ⟨p3, c3, rfl, -⟩ := hx.form
  obtain ⟨p4, c4, rfl, -⟩ := hy.form
  clear ha hb hx hy
  generalize l.length = n at *
  generalize vs.length = m at *
  go_enter Try.func10, Try.ntmps10
  go_wp2_with fail
  refine (Hv.out _ (by (repeat (first | (with_reducible exact Below.refl _ _) | (with_reducible refine below_setCell ?_ (by first | (simp; done) | (simp; omega) | omega)) | (with_reducible refine below_alloc _ ?_) | (with_reducible refine below_drewN ?_ _) | (with_reducible assumption) | (with_reducible refine below_after (by assumption) ?_))))).mono ?_
  rintro e w1 ⟨rfl, k1⟩
  have X := ((Blk.new w 29 #[.slice p1 m c1, .int .i64 0, .slice p3 n c3, .int .i64 f, .slice none 0 0, .slice pw 0 0]).alloc (.cells #[.slice p2 m c2, .int .i64 0, .slice p4 n c4, .int .i64 f, .slice none 0 0, .slice pw' 0 0] 29)).below k1
  have Y : Blk w1 (w.heap.size + 1) 29 #[.slice p2 m c2, .int .i64 0, .slice p4 n c4, .int .i64 f, .slice none 0 0, .slice pw' 0 0] := by
    have := (Blk.new (w.alloc (.cells #[.slice p1 m c1, .int .i64 0, .slice p3 n c3, .int .i64 f, .slice none 0 0, .slice pw 0 0] 29)) 29 #[.slice p2 m c2, .int .i64 0, .slice p4 n c4, .int .i64 f, .slice none 0 0, .slice pw' 0 0]).below k1
    rwa [show (w.alloc (.cells #[.slice p1 m c1, .int .i64 0, .slice p3 n c3, .int .i64 f, .slice none 0 0, .slice pw 0 0] 29)).heap.size = w.heap.size + 1 from by simp] at this
  have b1 : Below w.heap.size w w1 := below_after k1 (by (repeat (first | (with_reducible exact Below.refl _ _) | (with_reducible refine below_setCell ?_ (by first | (simp; done) | (simp; omega) | omega)) | (with_reducible refine below_alloc _ ?_) | (with_reducible refine below_drewN ?_ _) | (with_reducible assumption) | (with_reducible refine below_after (by assumption) ?_))))
  clear k1
  have x0 := X.cell 0 (v := .slice p1 m c1) rfl
  have x1 := X.cell 1 (v := .int .i64 0) rfl
  have x2 := X.cell 2 (v := .slice p3 n c3) rfl
  have x3 := X.cell 3 (v := .int .i64 f) rfl
  have x4 := X.cell 4 (v := .slice none 0 0) rfl
  have x5 := X.cell 5 (v := .slice pw 0 0) rfl
  have y0 := Y.cell 0 (v := .slice p2 m c2) rfl
  have y1 := Y.cell 1 (v := .int .i64 0) rfl
  have y2 := Y.cell 2 (v := .slice p4 n c4) rfl
  have y3 := Y.cell 3 (v := .int .i64 f) rfl
  have y4 := Y.cell 4 (v := .slice none 0 0) rfl
  have y5 := Y.cell 5 (v := (.slice pw' 0 0)) rfl
  go_wp2_with fail
  refine (Hn.out _ b1).mono ?_
  rintro e w2 ⟨rfl, k2⟩
  replace x0 := cell_step k2 x0
  replace x1 := cell_step k2 x1
  replace x2 := cell_step k2 x2
  replace x3 := cell_step k2 x3
  replace x4 := cell_step k2 x4
  replace x5 := cell_step k2 x5
  replace y0 := cell_step k2 y0
  replace y1 := cell_step k2 y1
  replace y2 := cell_step k2 y2
  replace y3 := cell_step k2 y3
  replace y4 := cell_step k2 y4
  replace y5 := cell_step k2 y5
  have b2 : Below w.heap.size w w2 := below_after k2 b1
  clear k2 X Y
  go_wp2_with fail
  refine (Hw.out _).mono ?_
  rintro e w3 ⟨rfl, rfl⟩
  go_wp2
  go_ret
  exact ⟨rfl, b2⟩

theorem turn_after2 {lo hi : Nat} {w w1 w' : World} (b : Below w.heap.size w w1) (t : Turn lo hi w1 w') : Turn lo hi w w' :=
  ⟨t.os.trans b.os, t.tape.trans b.tape, t.output.trans b.output, Nat.le_trans b.size t.size, fun d h1 h2 => (t.block d (Nat.lt_of_lt_of_le h1 b.size) h2).trans (b.block d h1)⟩
theorem turn_trans2 {lo hi : Nat} {a b d : World} (h : Turn lo hi a b) (k : Turn lo hi b d) : Turn lo hi a d :=
  ⟨k.os.trans h.os, k.tape.trans h.tape, k.output.trans h.output, Nat.le_trans h.size k.size, fun i h1 h2 => (k.block i (Nat.lt_of_lt_of_le h1 h.size) h2).trans (h.block i h1 h2)⟩

set_option maxRecDepth 100000 in
/-- laws.markNet, the second of two. -/
theorem markNet_h (K : Nat) (h0 : 0 < K) (a b : Value) (l : List Int) (f : Int) (lo hi k L : Nat) (f1 f2 : List Nat) (u : World) (h : Half PT.tvoter Cod.int u lo hi a b l k L f1 f2) (hhi : hi ≤ u.heap.size) (hL : K + sumN LInt l ≤ 1073741824) :
    Calls Try.prog 42 #[.agg #[.int .i64 0, b, .int .i64 f, .slice none 0 0], .int .i64 (K : Int)] u fun e u' => e = .returned (.int .i64 ((K + sumN LInt l : Nat) : Int)) ∧ HeldS PT.tvoter u' a k L ∧ HeldS PT.tint u' b K (sumN LInt l) ∧ Turn lo hi u u' := by
  have Hc : Hid (∀ W, Below u.heap.size u W → Calls Try.prog 12 #[b, .int .i64 (K : Int)] W fun e u' => e = .returned (.int .i64 ((K + sumN LInt l : Nat) : Int)) ∧ HeldS PT.tvoter u' a k L ∧ HeldS PT.tint u' b K (sumN LInt l) ∧ Turn lo hi W u') := Lib.hid fun W kb => by
    obtain ⟨h1, h2, h3, h4⟩ := (h.below kb).second fitsInt
    refine (markIntS_p K h0 b f2 W h1 h2 (by rw [h3]; exact hL)).mono ?_
    rintro e u' ⟨rfl, st⟩
    exact ⟨by rw [h3], h4 u' K st⟩
  obtain ⟨p, c, rfl, -⟩ := (show Rd Cod.int u b l from ⟨f2, h.2.1⟩).form
  clear h
  obtain ⟨K2, hK⟩ : ∃ K2, K + sumN LInt l = K2 := ⟨_, rfl⟩
  generalize sumN LInt l = S at *
  rw [hK] at Hc hL
  rw [hK]
  have Hn := Lib.hid (fun W => markLetterS_nil K2 (by omega) hL W)
  clear hK
  generalize l.length = n at *
  go_enter Try.func42, Try.ntmps42
  go_wp2_with fail
  refine (Hc.out _ (by (repeat (first | (with_reducible exact Below.refl _ _) | (with_reducible refine below_setCell ?_ (by first | (simp; done) | (simp; omega) | omega)) | (with_reducible refine below_alloc _ ?_) | (with_reducible refine below_drewN ?_ _) | (with_reducible assumption) | (with_reducible refine below_after (by assumption) ?_))))).mono ?_
  rintro e w1 ⟨rfl, hh1, hh2, t1⟩
  have c3 : w1.cell? ⟨u.heap.size, 3, none⟩ = some (.slice none 0 0) := t1.cell (by simp [go_sem]) (Or.inr hhi)
  have T1 : Hid (Turn lo hi u w1) := Lib.hid (turn_after2 (by (repeat (first | (with_reducible exact Below.refl _ _) | (with_reducible refine below_setCell ?_ (by first | (simp; done) | (simp; omega) | omega)) | (with_reducible refine below_alloc _ ?_) | (with_reducible refine below_drewN ?_ _) | (with_reducible assumption) | (with_reducible refine below_after (by assumption) ?_)))) t1)
  clear t1
  go_wp2_with fail
  refine (Hn.out _).mono ?_
  rintro e w2 ⟨rfl, k2⟩
  go_wp2
  go_ret
  exact ⟨rfl, hh1.below k2, hh2.below k2, T1.out.then k2⟩

set_option maxRecDepth 100000 in
set_option maxHeartbeats 1600000 in
/-- laws.markPoll -/
theorem markPoll_h (k0 : Nat) (h0 : 0 < k0) (a b : Value) (vs : List VoterD) (l : List Int) (f : Int) (pw : Option Addr) (lo hi : Nat) (u : World) (hhi : hi ≤ u.heap.size) (h : Own2 Cod.voter Cod.int u lo hi a b vs l) (hL : k0 + sumN LVoter vs + sumN LInt l ≤ 1073741824) :
    Calls Try.prog 13 #[.agg #[a, .int .i64 0, b, .int .i64 f, .slice none 0 0, .slice pw 0 0], .int .i64 (k0 : Int)] u fun e u' => e = .returned (.int .i64 ((k0 + sumN LVoter vs + sumN LInt l : Nat) : Int)) ∧ HeldS PT.tvoter u' a k0 (sumN LVoter vs) ∧ HeldS PT.tint u' b (k0 + sumN LVoter vs) (sumN LInt l) ∧ Turn lo hi u u' := by
  have Hc1 : Hid (∀ W, Below u.heap.size u W → Calls Try.prog 41 #[a, .int .i64 (k0 : Int)] W fun e u' => e = .returned (.int .i64 ((k0 + sumN LVoter vs : Nat) : Int)) ∧ (∃ f1 f2, Half PT.tvoter Cod.int u' lo hi a b l k0 (sumN LVoter vs) f1 f2) ∧ Turn lo hi W u') := Lib.hid fun W k => by
    obtain ⟨f1, f2, h1, h2, h3, h4⟩ := (h.below k).first fitsVoter
    refine (markVoterS_p k0 h0 a f1 W h1 h2 (by rw [h3]; omega)).mono ?_
    rintro e u' ⟨rfl, st⟩
    exact ⟨by rw [h3], ⟨f1, f2, (h4 u' k0 st).1⟩, (h4 u' k0 st).2⟩
  have Hc2 := Lib.hid (fun (W : World) (f1 f2 : List Nat) (hh : Half PT.tvoter Cod.int W lo hi a b l k0 (sumN LVoter vs) f1 f2) (hw : hi ≤ W.heap.size) => markNet_h (k0 + sumN LVoter vs) (by omega) a b l f lo hi k0 (sumN LVoter vs) f1 f2 W hh hw hL)
  obtain ⟨pa, ca, rfl, -⟩ := h.rd1.form
  obtain ⟨pb, cb, rfl, -⟩ := h.rd2.form
  clear h
  obtain ⟨L1, hL1⟩ : ∃ L1, k0 + sumN LVoter vs = L1 := ⟨_, rfl⟩
  rw [hL1] at Hc1 Hc2 hL ⊢
  obtain ⟨L2, hL2⟩ : ∃ L2, L1 + sumN LInt l = L2 := ⟨_, rfl⟩
  rw [hL2] at Hc2 hL ⊢
  have Hw := Lib.hid (fun W => markWonS_nil L2 (by omega) hL pw W)
  clear hL1 hL2 hL
  generalize sumN LVoter vs = S1 at *
  generalize sumN LInt l = S2 at *
  generalize vs.length = nv at *
  generalize l.length = n at *
  go_enter Try.func13, Try.ntmps13
  go_wp2_with fail
  refine (Hc1.out _ (by (repeat (first | (with_reducible exact Below.refl _ _) | (with_reducible refine below_setCell ?_ (by first | (simp; done) | (simp; omega) | omega)) | (with_reducible refine below_alloc _ ?_) | (with_reducible refine below_drewN ?_ _) | (with_reducible assumption) | (with_reducible refine below_after (by assumption) ?_))))).mono ?_
  rintro e w1 ⟨rfl, ⟨f1, f2, hh⟩, t1⟩
  have T1 : Hid (Turn lo hi u w1) := Lib.hid (turn_after2 (by (repeat (first | (with_reducible exact Below.refl _ _) | (with_reducible refine below_setCell ?_ (by first | (simp; done) | (simp; omega) | omega)) | (with_reducible refine below_alloc _ ?_) | (with_reducible refine below_drewN ?_ _) | (with_reducible assumption) | (with_reducible refine below_after (by assumption) ?_)))) t1)
  have c0 : w1.cell? ⟨u.heap.size, 0, none⟩ = some (.slice pa nv ca) := t1.cell (by simp [go_sem]) (Or.inr hhi)
  have c1 : w1.cell? ⟨u.heap.size, 1, none⟩ = some (.int .i64 0) := t1.cell (by simp [go_sem]) (Or.inr hhi)
  have c2 : w1.cell? ⟨u.heap.size, 2, none⟩ = some (.slice pb n cb) := t1.cell (by simp [go_sem]) (Or.inr hhi)
  have c3 : w1.cell? ⟨u.heap.size, 3, none⟩ = some (.int .i64 f) := t1.cell (by simp [go_sem]) (Or.inr hhi)
  have c4 : w1.cell? ⟨u.heap.size, 4, none⟩ = some (.slice none 0 0) := t1.cell (by simp [go_sem]) (Or.inr hhi)
  have c5 : w1.cell? ⟨u.heap.size, 5, none⟩ = some (.slice pw 0 0) := t1.cell (by simp [go_sem]) (Or.inr hhi)
  have hw1 : hi ≤ w1.heap.size := Nat.le_trans hhi T1.out.size
  have Hh := Lib.hid hh
  clear t1 hh
  go_wp2_with fail
  refine (Hc2.out _ _ _ Hh.out hw1).mono ?_
  rintro e w2 ⟨rfl, s1, s2, t2⟩
  replace c5 : w2.cell? ⟨u.heap.size, 5, none⟩ = some (.slice pw 0 0) := t2.cell c5 (Or.inr hhi)
  have T2 := Lib.hid (turn_trans2 T1.out t2)
  clear t2 c0 c1 c2 c3 c4
  go_wp2_with fail
  refine (Hw.out _).mono ?_
  rintro e w3 ⟨rfl, k3⟩
  have S1' := Lib.hid (s1.below k3)
  have S2' := Lib.hid (s2.below k3)
  have T3 := Lib.hid (T2.out.then k3)
  clear s1 s2 k3
  go_wp2
  go_ret
  exact ⟨rfl, S1'.out, S2'.out, T3.out⟩

set_option maxRecDepth 100000 in
set_option maxHeartbeats 1600000 in
/-- laws.heldPoll -/
theorem heldPoll_h (k0 : Nat) (h0 : 0 < k0) (a b : Value) (f : Int) (pw : Option Addr) (L1 L2 : Nat) (u : World) (h1 : HeldS PT.tvoter u a k0 L1) (h2 : HeldS PT.tint u b (k0 + L1) L2) (hL : k0 + L1 + L2 ≤ 1073741824) :
    Calls Try.prog 14 #[.agg #[a, .int .i64 0, b, .int .i64 f, .slice none 0 0, .slice pw 0 0], .int .i64 (k0 : Int)] u fun e u' => e = .returned (.int .i64 ((k0 + L1 + L2 : Nat) : Int)) ∧ Below u.heap.size u u' := by
  have Hc1 := Lib.hid (fun (W : World) (k : Below u.heap.size u W) => heldVoterS_p k0 h0 a L1 W (h1.below k) (by omega))
  have Hc2 := Lib.hid (fun (W : World) (k : Below u.heap.size u W) => heldNet_any (k0 + L1) (by omega) b f L2 W (h2.below k) hL)
  obtain ⟨pa, na, ca, rfl, -⟩ := h1.form
  obtain ⟨pb, nb, cb, rfl, -⟩ := h2.form
  clear h1 h2
  obtain ⟨M1, hM1⟩ : ∃ M1, k0 + L1 = M1 := ⟨_, rfl⟩
  rw [hM1] at Hc1 Hc2 hL ⊢
  obtain ⟨M2, hM2⟩ : ∃ M2, M1 + L2 = M2 := ⟨_, rfl⟩
  rw [hM2] at Hc2 hL ⊢
  have Hw := Lib.hid (fun W => heldWonS_nil M2 (by omega) hL pw W)
  have hn1 : (0 : Int) ≤ (M1 : Int) := by omega
  have hn2 : (0 : Int) ≤ (M2 : Int) := by omega
  clear hM1 hM2
  go_enter Try.func14, Try.ntmps14
  go_wp2_with fail
  refine (Hc1.out _ (by (repeat (first | (with_reducible exact Below.refl _ _) | (with_reducible refine below_setCell ?_ (by first | (simp; done) | (simp; omega) | omega)) | (with_reducible refine below_alloc _ ?_) | (with_reducible refine below_drewN ?_ _) | (with_reducible assumption) | (with_reducible refine below_after (by assumption) ?_))))).mono ?_
  rintro e w1 ⟨rfl, k1⟩
  have c0 : w1.cell? ⟨u.heap.size, 0, none⟩ = some (.slice pa na ca) := by rw [(bcell k1).1 _ _ (by simp)]; simp [go_sem]
  have c1 : w1.cell? ⟨u.heap.size, 1, none⟩ = some (.int .i64 0) := by rw [(bcell k1).1 _ _ (by simp)]; simp [go_sem]
  have c2 : w1.cell? ⟨u.heap.size, 2, none⟩ = some (.slice pb nb cb) := by rw [(bcell k1).1 _ _ (by simp)]; simp [go_sem]
  have c3 : w1.cell? ⟨u.heap.size, 3, none⟩ = some (.int .i64 f) := by rw [(bcell k1).1 _ _ (by simp)]; simp [go_sem]
  have c4 : w1.cell? ⟨u.heap.size, 4, none⟩ = some (.slice none 0 0) := by rw [(bcell k1).1 _ _ (by simp)]; simp [go_sem]
  have c5 : w1.cell? ⟨u.heap.size, 5, none⟩ = some (.slice pw 0 0) := by rw [(bcell k1).1 _ _ (by simp)]; simp [go_sem]
  have b1 : Below u.heap.size u w1 := below_after k1 (by (repeat (first | (with_reducible exact Below.refl _ _) | (with_reducible refine below_setCell ?_ (by first | (simp; done) | (simp; omega) | omega)) | (with_reducible refine below_alloc _ ?_) | (with_reducible refine below_drewN ?_ _) | (with_reducible assumption) | (with_reducible refine below_after (by assumption) ?_))))
  clear k1
  go_wp2_with fail
  refine (Hc2.out _ (by (repeat (first | (with_reducible exact Below.refl _ _) | (with_reducible refine below_setCell ?_ (by first | (simp; done) | (simp; omega) | omega)) | (with_reducible refine below_alloc _ ?_) | (with_reducible refine below_drewN ?_ _) | (with_reducible assumption) | (with_reducible refine below_after (by assumption) ?_))))).mono ?_
  rintro e w2 ⟨rfl, k2⟩
  replace c5 := cell_step k2 c5
  have b2 : Below u.heap.size u w2 := below_after k2 b1
  clear k2 c0 c1 c2 c3 c4
  go_wp2_with fail
  refine (Hw.out _).mono ?_
  rintro e w3 ⟨rfl, k3⟩
  have b3 : Below u.heap.size u w3 := below_after k3 b2
  go_wp2
  go_ret
  exact ⟨rfl, b3⟩

end Go.Proofs.Ytbkhooklieangaa
