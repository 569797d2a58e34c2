/- laws.vGroupAct: a drawn act of a group. Printed by mkvact.py. -/
import Derived.Test.YtfaefjdlfjhniaaPlayL
import Derived.Test.YtfaefjdlfjhniaaRunb
import Derived.Test.YtfaefjdlfjhniaaHeld
import Derived.Deep.DeepCutAuto
namespace Go.Proofs.Ytfaefjdlfjhniaa
open Go.RowKit

section
variable {P : Program} {ops : Array Oper} {Q : Exit → Act → World → Prop} {md : Region.Mode} {S S' : World → Prop} {m : Nat}
/-- More may be asked of the worlds from here on. -/
theorem d_more (hS : ∀ w, S' w → S w) : ∀ (fuel : Nat) (listed : Array Bool) (a : Act) (w : World), wpAnyD P md ops Q S' m fuel listed a w → wpAnyD P md ops Q S m fuel listed a w
  | 0, _, _, _, h => h
  | fuel + 1, _, _, _, h => ⟨h.1, fun i hi => wpOp_mono (fun _ _ k => ⟨fun e => hS _ (k.1 e), d_more hS fuel _ _ _ k.2⟩) (h.2 i hi)⟩
/-- One of three may come up. -/
theorem d_three (i j k : Nat) {oi oj ok : Oper} {fuel : Nat} {listed : Array Bool} {a : Act} {w : World} (hr : Region.ready md ops listed = [i, j, k]) (hi : ops[i]? = some oi) (hj : ops[j]? = some oj) (hk : ops[k]? = some ok)
    (h : ∀ K : Act → World → Prop, Shut (∀ a' w', ((listed.setIfInBounds i true).getD m false = false → S w') → wpAnyD P md ops Q S m fuel (listed.setIfInBounds i true) a' w' → K a' w') →
      if Region.wanted oi (yielded ops a.tmps) = true then Oper.wp P oi a w K Q else K (a.put oi.dst undef) w)
    (h' : ∀ K : Act → World → Prop, Shut (∀ a' w', ((listed.setIfInBounds j true).getD m false = false → S w') → wpAnyD P md ops Q S m fuel (listed.setIfInBounds j true) a' w' → K a' w') →
      if Region.wanted oj (yielded ops a.tmps) = true then Oper.wp P oj a w K Q else K (a.put oj.dst undef) w)
    (h'' : ∀ K : Act → World → Prop, Shut (∀ a' w', ((listed.setIfInBounds k true).getD m false = false → S w') → wpAnyD P md ops Q S m fuel (listed.setIfInBounds k true) a' w' → K a' w') →
      if Region.wanted ok (yielded ops a.tmps) = true then Oper.wp P ok a w K Q else K (a.put ok.dst undef) w) : wpAnyD P md ops Q S m (fuel + 1) listed a w := by
  refine ⟨fun h0 => (by rw [hr] at h0; cases h0), fun x hx => ?_⟩
  rw [hr, List.mem_cons, List.mem_cons, List.mem_singleton] at hx
  rcases hx with rfl | rfl | rfl
  · exact wpOp_step hi fun K hK => h K fun a' w' h1 h2 => hK a' w' ⟨h1, h2⟩
  · exact wpOp_step hj fun K hK => h' K fun a' w' h1 h2 => hK a' w' ⟨h1, h2⟩
  · exact wpOp_step hk fun K hK => h'' K fun a' w' h1 h2 => hK a' w' ⟨h1, h2⟩
end

/-- The kind that is drawn. -/
def kindN (j : Nat) : Nat := match j with
  | 0 => 1
  | 1 => 2
  | 2 => 3
  | 3 => 3
  | 4 => 4
  | 5 => 4
  | 6 => 4
  | 7 => 5
  | 8 => 5
  | 9 => 5
  | 10 => 6
  | _ => 6
theorem kindN_in (j : Nat) : 1 ≤ kindN j ∧ kindN j ≤ 6 := by
  unfold kindN
  split <;> omega
theorem kind_cell (W : World) (t : TypeId) (j : Nat) (hj : j < 12) : (W.alloc (.cells #[.int .i64 1, .int .i64 2, .int .i64 3, .int .i64 3, .int .i64 4, .int .i64 4, .int .i64 4, .int .i64 5, .int .i64 5, .int .i64 5, .int .i64 6, .int .i64 6] t)).cell? ⟨W.heap.size, j, none⟩ = some (.int .i64 (kindN j : Int)) := by
  obtain rfl | rfl | rfl | rfl | rfl | rfl | rfl | rfl | rfl | rfl | rfl | rfl : j = 0 ∨ j = 1 ∨ j = 2 ∨ j = 3 ∨ j = 4 ∨ j = 5 ∨ j = 6 ∨ j = 7 ∨ j = 8 ∨ j = 9 ∨ j = 10 ∨ j = 11 := by omega
  all_goals simp [go_sem, kindN]
/-- The record of a drawn act. -/
def actR (cd : List UInt8) (i : Nat) : RecD := if kindN (vAtN cd i % 12) = 4 then recN cd (i + 2) else ⟨0, 0, 0, 0, [], [], false⟩
theorem actR_light (cd : List UInt8) (i : Nat) : (actR cd i).Reads = [] ∧ (actR cd i).Writes = [] := by
  unfold actR; split
  · exact recN_light _ _
  · exact ⟨rfl, rfl⟩
theorem actR_i64 (cd : List UInt8) (i : Nat) : I64 (actR cd i).Kind ∧ I64 (actR cd i).Txn ∧ I64 (actR cd i).Time ∧ I64 (actR cd i).Lead := by
  unfold actR; split
  · exact recN_i64 _ _
  · unfold I64; refine ⟨?_, ?_, ?_, ?_⟩ <;> dsimp only <;> omega

set_option maxRecDepth 100000 in
set_option maxHeartbeats 12800000 in
theorem vAct_j (p : Option Addr) (N c i n x0 x1 s j K : Nat) (y : RecD) (h0 : x0 % 12 = j) (hx : (x0 : Int) < 256) (hx1 : (x1 : Int) < 256) (hs : x1 % n = s) (hn : 3 ≤ n ∧ n ≤ 5) (hi : i ≤ 60000) (hKj : K = kindN j) (w : World)
    (hv0 : ∀ W, Below w.heap.size w W → Calls Try.prog 7 #[.slice p N c, .int .i64 (i : Int)] W fun e w' => e = .returned (.int .i64 (x0 : Int)) ∧ W = w')
    (hv1 : ∀ W, Below w.heap.size w W → Calls Try.prog 7 #[.slice p N c, .int .i64 ((i : Int) + 1)] W fun e w' => e = .returned (.int .i64 (x1 : Int)) ∧ W = w')
    (hv2 : K = 4 → ∀ W, Below w.heap.size w W → Calls Try.prog 14 #[.slice p N c, .int .i64 ((i : Int) + 2)] W fun e w' => e = .returned (.agg #[.int .i64 y.Kind, .int .i64 y.Txn, .int .i64 y.Time, .int .i64 y.Lead, .slice none 0 0, .slice none 0 0, .bool y.Yes]) ∧ Below W.heap.size W w')
    (hy : K ≠ 4 → y = ⟨0, 0, 0, 0, [], [], false⟩) :
    Calls Try.prog 19 #[.slice p N c, .int .i64 (i : Int), .int .i64 (n : Int)] w fun e w' => e = .returned (actV K (s : Int) y) ∧ Below w.heap.size w w' := by
  have H0 := Lib.hid hv0
  have H1 := Lib.hid hv1
  have H2 := Lib.hid hv2
  have HY := Lib.hid hy
  have HKj := Lib.hid hKj
  have hj : j < 12 := by omega
  have hjI : (j : Int) < 12 := by omega
  have hmod : (x0 : Int) % 12 = (j : Int) := by omega
  have htm : (x0 : Int).tmod 12 = (j : Int) := by rw [Int.tmod_eq_emod_of_nonneg (by omega)]; exact hmod
  have hsm : (x1 : Int) % (n : Int) = (s : Int) := by rw [← hs, Int.natCast_emod]
  have hst : (x1 : Int).tmod (n : Int) = (s : Int) := by rw [Int.tmod_eq_emod_of_nonneg (by omega)]; exact hsm
  have hn3 : 3 ≤ (n : Int) := by omega
  have hn5 : (n : Int) ≤ 5 := by omega
  have hn0 : ¬ n = 0 := by omega
  have hib : (i : Int) ≤ 60000 := by omega
  have hw1 : IntKind.i64.wrap ((i : Int) + 1) = (i : Int) + 1 := IntWalk.i64_in _ (by omega)
  have hs5 : (s : Int) < 5 := by have := Nat.mod_lt x1 (show 0 < n by omega); omega
  clear hv0 hv1 hv2 hy hs hn hi h0 hKj
  unfold actV
  go_enter Try.func19, Try.ntmps19
  go_upto_region 1 with fail
  generalize hu : World.alloc _ _ = u
  have bu : Below w.heap.size w u := by rw [← hu]; exact below_new _ _
  have zu : w.heap.size < u.heap.size := by rw [← hu]; simp
  have r0 : u.cell? ⟨w.heap.size, 0, none⟩ = some (.int .i64 0) := by rw [← hu]; simp [go_sem]
  have r1 : u.cell? ⟨w.heap.size, 1, none⟩ = some (.int .i64 0) := by rw [← hu]; simp [go_sem]
  have r2 : u.cell? ⟨w.heap.size, 2, none⟩ = some (.int .i64 0) := by rw [← hu]; simp [go_sem]
  have r3 : u.cell? ⟨w.heap.size, 3, none⟩ = some (.int .i64 0) := by rw [← hu]; simp [go_sem]
  have r4 : u.cell? ⟨w.heap.size, 4, none⟩ = some (.int .i64 0) := by rw [← hu]; simp [go_sem]
  have r5 : u.cell? ⟨w.heap.size, 5, none⟩ = some (.int .i64 0) := by rw [← hu]; simp [go_sem]
  have r6 : u.cell? ⟨w.heap.size, 6, none⟩ = some (.slice none 0 0) := by rw [← hu]; simp [go_sem]
  have r7 : u.cell? ⟨w.heap.size, 7, none⟩ = some (.slice none 0 0) := by rw [← hu]; simp [go_sem]
  have r8 : u.cell? ⟨w.heap.size, 8, none⟩ = some (.bool false) := by rw [← hu]; simp [go_sem]
  have g0 : u.frozen? ⟨w.heap.size, 0, none⟩ = false := by rw [← hu]; simp [go_sem]
  have g1 : u.frozen? ⟨w.heap.size, 1, none⟩ = false := by rw [← hu]; simp [go_sem]
  have g2 : u.frozen? ⟨w.heap.size, 2, none⟩ = false := by rw [← hu]; simp [go_sem]
  have g3 : u.frozen? ⟨w.heap.size, 3, none⟩ = false := by rw [← hu]; simp [go_sem]
  have g4 : u.frozen? ⟨w.heap.size, 4, none⟩ = false := by rw [← hu]; simp [go_sem]
  have g5 : u.frozen? ⟨w.heap.size, 5, none⟩ = false := by rw [← hu]; simp [go_sem]
  have g6 : u.frozen? ⟨w.heap.size, 6, none⟩ = false := by rw [← hu]; simp [go_sem]
  have g7 : u.frozen? ⟨w.heap.size, 7, none⟩ = false := by rw [← hu]; simp [go_sem]
  have g8 : u.frozen? ⟨w.heap.size, 8, none⟩ = false := by rw [← hu]; simp [go_sem]
  clear hu
  go_cut [7] (fun b wx => ∃ B, b = .pointer (some ⟨B, 0, none⟩) ∧ u.heap.size ≤ B ∧ B < wx.heap.size ∧ (wx.cell? ⟨B, 0, none⟩ = some (.int .i64 (K : Int)) ∧ wx.cell? ⟨B, 1, none⟩ = some (.int .i64 (s : Int)) ∧ wx.cell? ⟨B, 2, none⟩ = some (.int .i64 0) ∧ wx.cell? ⟨B, 3, none⟩ = some (.int .i64 0) ∧ wx.cell? ⟨B, 4, none⟩ = some (.int .i64 0) ∧ wx.cell? ⟨B, 5, none⟩ = some (.int .i64 0) ∧ wx.cell? ⟨B, 6, none⟩ = some (.slice none 0 0) ∧ wx.cell? ⟨B, 7, none⟩ = some (.slice none 0 0) ∧ wx.cell? ⟨B, 8, none⟩ = some (.bool false)) ∧ (wx.frozen? ⟨B, 0, none⟩ = false ∧ wx.frozen? ⟨B, 1, none⟩ = false ∧ wx.frozen? ⟨B, 2, none⟩ = false ∧ wx.frozen? ⟨B, 3, none⟩ = false ∧ wx.frozen? ⟨B, 4, none⟩ = false ∧ wx.frozen? ⟨B, 5, none⟩ = false ∧ wx.frozen? ⟨B, 6, none⟩ = false ∧ wx.frozen? ⟨B, 7, none⟩ = false ∧ wx.frozen? ⟨B, 8, none⟩ = false) ∧ Below u.heap.size u wx)
  case first =>
    refine wp_region_d 15 (fun _ => True) (by kernel_rfl) ?_
    have hT : True := trivial
    refine d_takeY (v := ?_) 1 rfl (by kernel_rfl) (fun _ _ _ h => h) (Or.inl ⟨by rfl, ?_⟩) hT ?_
    rotate_left
    · intro wx _
      first | (go_simp; done) | (go_simp; with_reducible rfl)
    simp only [Act.put, List.setIfInBounds_toArray]
    refine d_takeY (v := ?_) 2 rfl (by kernel_rfl) (fun _ _ _ h => h) (Or.inl ⟨by rfl, ?_⟩) hT ?_
    rotate_left
    · intro wx _
      first | (go_simp; done) | (go_simp; with_reducible rfl)
    simp only [Act.put]
    refine d_takeY (v := ?_) 7 rfl (by kernel_rfl) (fun _ _ _ h => h) (Or.inl ⟨by rfl, ?_⟩) hT ?_
    rotate_left
    · intro wx _
      first | (go_simp; done) | (go_simp; with_reducible rfl)
    simp only [Act.put]
    refine d_takeY (v := ?_) 8 rfl (by kernel_rfl) (fun _ _ _ h => h) (Or.inl ⟨by rfl, ?_⟩) hT ?_
    rotate_left
    · intro wx _
      first | (go_simp; done) | (go_simp; with_reducible rfl)
    simp only [Act.put]
    refine d_takeY (v := ?_) 9 rfl (by kernel_rfl) (fun _ _ _ h => h) (Or.inl ⟨by rfl, ?_⟩) hT ?_
    rotate_left
    · intro wx _
      first | (go_simp; done) | (go_simp; with_reducible rfl)
    simp only [Act.put]
    refine d_takeY (v := ?_) 11 rfl (by kernel_rfl) (fun _ _ _ h => h) (Or.inl ⟨by rfl, ?_⟩) hT ?_
    rotate_left
    · intro wx _
      first | (go_simp; done) | (go_simp; with_reducible rfl)
    simp only [Act.put]
    refine d_three 0 3 14 (by kernel_rfl) rfl rfl rfl (fun K0 hK => ?_) (fun K0 hK => ?_) (fun K0 hK => ?_)
    · skip
      go_simp
      generalize hA : World.drew (World.alloc _ _) = w0a
      have m_w0a : Below u.heap.size u w0a := by rw [← hA]; (repeat (first | (with_reducible exact Below.refl _ _) | (with_reducible refine below_setCell ?_ (by first | (simp; done) | (simp; omega) | omega)) | (with_reducible refine below_alloc _ ?_) | (with_reducible refine below_drewN ?_ _) | (with_reducible refine below_drew_step ?_) | (with_reducible assumption) | (with_reducible refine below_after (by assumption) ?_)))
      have n_w0a : u.heap.size ≤ u.heap.size := by exact Nat.le_refl _
      have qa : w0a.cell? ⟨u.heap.size, j, none⟩ = some (.int .i64 (K : Int)) := by rw [← hA, HKj.out]; exact kind_cell _ _ j hj
      clear hA
      refine hK.out _ _ (fun _ => trivial) ?_
      clear hK K0
      try simp only [Act.put, List.setIfInBounds_toArray, List.set_cons_zero, List.set_cons_succ]
      refine d_two 3 14 (by kernel_rfl) rfl rfl (fun K0 hK => ?_) (fun K0 hK => ?_)
      · skip
        go_simp
        go_at_call 7
        refine (H0.out _ (show Below w.heap.size w w0a from by (repeat (first | (with_reducible exact Below.refl _ _) | (with_reducible refine below_setCell ?_ (by first | (simp; done) | (simp; omega) | omega)) | (with_reducible refine below_alloc _ ?_) | (with_reducible refine below_drewN ?_ _) | (with_reducible refine below_drew_step ?_) | (with_reducible assumption) | (with_reducible refine below_after (by assumption) ?_))))).mono ?_
        rintro e wv ⟨rfl, rfl⟩
        refine hK.out _ _ (fun _ => trivial) ?_
        clear hK K0
        try simp only [Act.put, List.setIfInBounds_toArray, List.set_cons_zero, List.set_cons_succ]
        have hT : True := trivial
        refine d_takeY (v := ?_) 4 rfl (by kernel_rfl) (fun _ _ _ h => h) (Or.inl ⟨by rfl, ?_⟩) hT ?_
        rotate_left
        · intro wx _
          first | (go_simp; done) | (go_simp; with_reducible rfl)
        simp only [Act.put, List.setIfInBounds_toArray]
        refine d_more (S' := fun w' => w'.cell? ⟨u.heap.size, j, none⟩ = some (.int .i64 (K : Int)) ∧ True) (fun _ _ => trivial) _ _ _ _ ?_
        have hSx : w0a.cell? ⟨u.heap.size, j, none⟩ = some (.int .i64 (K : Int)) ∧ True := ⟨qa, trivial⟩
        refine d_takeY (v := ?_) 5 rfl (by kernel_rfl) (fun _ _ _ h => h) (Or.inl ⟨by rfl, ?_⟩) hSx ?_
        rotate_left
        · intro wx _
          first | (go_simp; done) | (go_simp; with_reducible rfl)
        simp only [Act.put]
        refine d_take (f := 30) (v := ?_) 6 rfl (by kernel_rfl) (fun _ _ _ h => h) (Or.inl ⟨by rfl, ?_⟩) hSx ?_
        rotate_left
        · intro wx hx
          obtain ⟨x0, x1⟩ := hx
          first | (go_simp; done) | (go_simp; with_reducible rfl)
        simp only [Act.put]
        clear hSx
        refine d_two 10 14 (by kernel_rfl) rfl rfl (fun K0 hK => ?_) (fun K0 hK => ?_)
        · skip
          go_simp
          go_at_call 7
          refine (H1.out _ (show Below w.heap.size w w0a from by (repeat (first | (with_reducible exact Below.refl _ _) | (with_reducible refine below_setCell ?_ (by first | (simp; done) | (simp; omega) | omega)) | (with_reducible refine below_alloc _ ?_) | (with_reducible refine below_drewN ?_ _) | (with_reducible refine below_drew_step ?_) | (with_reducible assumption) | (with_reducible refine below_after (by assumption) ?_))))).mono ?_
          rintro e wv ⟨rfl, rfl⟩
          refine hK.out _ _ (fun _ => ⟨qa, trivial⟩) ?_
          clear hK K0
          try simp only [Act.put, List.setIfInBounds_toArray, List.set_cons_zero, List.set_cons_succ]
          have hT : True := trivial
          have hSx : w0a.cell? ⟨u.heap.size, j, none⟩ = some (.int .i64 (K : Int)) ∧ True := ⟨qa, trivial⟩
          refine d_takeY (v := ?_) 12 rfl (by kernel_rfl) (fun _ _ _ h => h) (Or.inl ⟨by rfl, ?_⟩) hSx ?_
          rotate_left
          · intro wx _
            first | (go_simp; done) | (go_simp; with_reducible rfl)
          simp only [Act.put, List.setIfInBounds_toArray]
          clear hSx
          have hSx : w0a.cell? ⟨u.heap.size, j, none⟩ = some (.int .i64 (K : Int)) ∧ True := ⟨qa, trivial⟩
          refine d_takeY (v := ?_) 13 rfl (by kernel_rfl) (fun _ _ _ h => h) (Or.inl ⟨by rfl, ?_⟩) hSx ?_
          rotate_left
          · intro wx _
            first | (go_simp; done) | (go_simp; with_reducible rfl)
          simp only [Act.put]
          clear hSx
          refine d_step 14 (by kernel_rfl) rfl (fun K0 hK => ?_)
          go_simp
          generalize hA : World.alloc _ _ = w4b
          have m_w4b : Below u.heap.size u w4b := by rw [← hA]; (repeat (first | (with_reducible exact Below.refl _ _) | (with_reducible refine below_setCell ?_ (by first | (simp; done) | (simp; omega) | omega)) | (with_reducible refine below_alloc _ ?_) | (with_reducible refine below_drewN ?_ _) | (with_reducible refine below_drew_step ?_) | (with_reducible assumption) | (with_reducible refine below_after (by assumption) ?_)))
          have n_w4b : u.heap.size ≤ w0a.heap.size := by have := m_w0a.size; exact this
          replace qa : w4b.cell? ⟨u.heap.size, j, none⟩ = some (.int .i64 (K : Int)) := cell_step (show Below w0a.heap.size w0a w4b from by rw [← hA]; (repeat (first | (with_reducible exact Below.refl _ _) | (with_reducible refine below_setCell ?_ (by first | (simp; done) | (simp; omega) | omega)) | (with_reducible refine below_alloc _ ?_) | (with_reducible refine below_drewN ?_ _) | (with_reducible refine below_drew_step ?_) | (with_reducible assumption) | (with_reducible refine below_after (by assumption) ?_)))) qa
          have q0 : w4b.cell? ⟨w0a.heap.size, 0, none⟩ = some (.int .i64 0) := by rw [← hA]; simp [go_sem]
          have q1 : w4b.cell? ⟨w0a.heap.size, 1, none⟩ = some (.int .i64 0) := by rw [← hA]; simp [go_sem]
          have q2 : w4b.cell? ⟨w0a.heap.size, 2, none⟩ = some (.int .i64 0) := by rw [← hA]; simp [go_sem]
          have q3 : w4b.cell? ⟨w0a.heap.size, 3, none⟩ = some (.int .i64 0) := by rw [← hA]; simp [go_sem]
          have q4 : w4b.cell? ⟨w0a.heap.size, 4, none⟩ = some (.int .i64 0) := by rw [← hA]; simp [go_sem]
          have q5 : w4b.cell? ⟨w0a.heap.size, 5, none⟩ = some (.int .i64 0) := by rw [← hA]; simp [go_sem]
          have q6 : w4b.cell? ⟨w0a.heap.size, 6, none⟩ = some (.slice none 0 0) := by rw [← hA]; simp [go_sem]
          have q7 : w4b.cell? ⟨w0a.heap.size, 7, none⟩ = some (.slice none 0 0) := by rw [← hA]; simp [go_sem]
          have q8 : w4b.cell? ⟨w0a.heap.size, 8, none⟩ = some (.bool false) := by rw [← hA]; simp [go_sem]
          have f0 : w4b.frozen? ⟨w0a.heap.size, 0, none⟩ = false := by rw [← hA]; simp [go_sem]
          have f1 : w4b.frozen? ⟨w0a.heap.size, 1, none⟩ = false := by rw [← hA]; simp [go_sem]
          have f2 : w4b.frozen? ⟨w0a.heap.size, 2, none⟩ = false := by rw [← hA]; simp [go_sem]
          have f3 : w4b.frozen? ⟨w0a.heap.size, 3, none⟩ = false := by rw [← hA]; simp [go_sem]
          have f4 : w4b.frozen? ⟨w0a.heap.size, 4, none⟩ = false := by rw [← hA]; simp [go_sem]
          have f5 : w4b.frozen? ⟨w0a.heap.size, 5, none⟩ = false := by rw [← hA]; simp [go_sem]
          have f6 : w4b.frozen? ⟨w0a.heap.size, 6, none⟩ = false := by rw [← hA]; simp [go_sem]
          have f7 : w4b.frozen? ⟨w0a.heap.size, 7, none⟩ = false := by rw [← hA]; simp [go_sem]
          have f8 : w4b.frozen? ⟨w0a.heap.size, 8, none⟩ = false := by rw [← hA]; simp [go_sem]
          have hBW : w0a.heap.size < w4b.heap.size := by rw [← hA]; simp
          have hBu : u.heap.size ≤ w0a.heap.size := n_w4b
          clear hA
          refine hK.out _ _ (fun _ => ⟨qa, trivial⟩) ?_
          clear hK K0
          try simp only [Act.put, List.setIfInBounds_toArray, List.set_cons_zero, List.set_cons_succ]
          refine d_step 15 (by kernel_rfl) rfl (fun K0 hK => ?_)
          go_simp
          refine hK.out _ _ (fun h => by exact absurd h (by decide)) ?_
          clear hK K0
          refine d_done (by kernel_rfl) ?_ _
          try simp only [Act.put, List.setIfInBounds_toArray, List.set_cons_zero, List.set_cons_succ]
          go_wp2_with fail
          go_meet
          refine ⟨w0a.heap.size, rfl, ?_, ?_, ⟨?_, ?_, ?_, ?_, ?_, ?_, ?_, ?_, ?_⟩, ⟨?_, ?_, ?_, ?_, ?_, ?_, ?_, ?_, ?_⟩, ?_⟩
          all_goals first | (simp [go_sem, q0, q1, q2, q3, q4, q5, q6, q7, q8, f0, f1, f2, f3, f4, f5, f6, f7, f8]; done) | (simp; omega) | (repeat (first | (with_reducible exact Below.refl _ _) | (with_reducible refine below_setCell ?_ (by first | (simp; done) | (simp; omega) | omega)) | (with_reducible refine below_alloc _ ?_) | (with_reducible refine below_drewN ?_ _) | (with_reducible refine below_drew_step ?_) | (with_reducible assumption) | (with_reducible refine below_after (by assumption) ?_)))
        · skip
          go_simp
          generalize hA : World.alloc _ _ = w2b
          have m_w2b : Below u.heap.size u w2b := by rw [← hA]; (repeat (first | (with_reducible exact Below.refl _ _) | (with_reducible refine below_setCell ?_ (by first | (simp; done) | (simp; omega) | omega)) | (with_reducible refine below_alloc _ ?_) | (with_reducible refine below_drewN ?_ _) | (with_reducible refine below_drew_step ?_) | (with_reducible assumption) | (with_reducible refine below_after (by assumption) ?_)))
          have n_w2b : u.heap.size ≤ w0a.heap.size := by have := m_w0a.size; exact this
          replace qa : w2b.cell? ⟨u.heap.size, j, none⟩ = some (.int .i64 (K : Int)) := cell_step (show Below w0a.heap.size w0a w2b from by rw [← hA]; (repeat (first | (with_reducible exact Below.refl _ _) | (with_reducible refine below_setCell ?_ (by first | (simp; done) | (simp; omega) | omega)) | (with_reducible refine below_alloc _ ?_) | (with_reducible refine below_drewN ?_ _) | (with_reducible refine below_drew_step ?_) | (with_reducible assumption) | (with_reducible refine below_after (by assumption) ?_)))) qa
          have q0 : w2b.cell? ⟨w0a.heap.size, 0, none⟩ = some (.int .i64 0) := by rw [← hA]; simp [go_sem]
          have q1 : w2b.cell? ⟨w0a.heap.size, 1, none⟩ = some (.int .i64 0) := by rw [← hA]; simp [go_sem]
          have q2 : w2b.cell? ⟨w0a.heap.size, 2, none⟩ = some (.int .i64 0) := by rw [← hA]; simp [go_sem]
          have q3 : w2b.cell? ⟨w0a.heap.size, 3, none⟩ = some (.int .i64 0) := by rw [← hA]; simp [go_sem]
          have q4 : w2b.cell? ⟨w0a.heap.size, 4, none⟩ = some (.int .i64 0) := by rw [← hA]; simp [go_sem]
          have q5 : w2b.cell? ⟨w0a.heap.size, 5, none⟩ = some (.int .i64 0) := by rw [← hA]; simp [go_sem]
          have q6 : w2b.cell? ⟨w0a.heap.size, 6, none⟩ = some (.slice none 0 0) := by rw [← hA]; simp [go_sem]
          have q7 : w2b.cell? ⟨w0a.heap.size, 7, none⟩ = some (.slice none 0 0) := by rw [← hA]; simp [go_sem]
          have q8 : w2b.cell? ⟨w0a.heap.size, 8, none⟩ = some (.bool false) := by rw [← hA]; simp [go_sem]
          have f0 : w2b.frozen? ⟨w0a.heap.size, 0, none⟩ = false := by rw [← hA]; simp [go_sem]
          have f1 : w2b.frozen? ⟨w0a.heap.size, 1, none⟩ = false := by rw [← hA]; simp [go_sem]
          have f2 : w2b.frozen? ⟨w0a.heap.size, 2, none⟩ = false := by rw [← hA]; simp [go_sem]
          have f3 : w2b.frozen? ⟨w0a.heap.size, 3, none⟩ = false := by rw [← hA]; simp [go_sem]
          have f4 : w2b.frozen? ⟨w0a.heap.size, 4, none⟩ = false := by rw [← hA]; simp [go_sem]
          have f5 : w2b.frozen? ⟨w0a.heap.size, 5, none⟩ = false := by rw [← hA]; simp [go_sem]
          have f6 : w2b.frozen? ⟨w0a.heap.size, 6, none⟩ = false := by rw [← hA]; simp [go_sem]
          have f7 : w2b.frozen? ⟨w0a.heap.size, 7, none⟩ = false := by rw [← hA]; simp [go_sem]
          have f8 : w2b.frozen? ⟨w0a.heap.size, 8, none⟩ = false := by rw [← hA]; simp [go_sem]
          have hBW : w0a.heap.size < w2b.heap.size := by rw [← hA]; simp
          have hBu : u.heap.size ≤ w0a.heap.size := n_w2b
          clear hA
          refine hK.out _ _ (fun _ => ⟨qa, trivial⟩) ?_
          clear hK K0
          try simp only [Act.put, List.setIfInBounds_toArray, List.set_cons_zero, List.set_cons_succ]
          refine d_step 10 (by kernel_rfl) rfl (fun K0 hK => ?_)
          go_simp
          go_at_call 7
          refine (H1.out _ (show Below w.heap.size w w2b from by (repeat (first | (with_reducible exact Below.refl _ _) | (with_reducible refine below_setCell ?_ (by first | (simp; done) | (simp; omega) | omega)) | (with_reducible refine below_alloc _ ?_) | (with_reducible refine below_drewN ?_ _) | (with_reducible refine below_drew_step ?_) | (with_reducible assumption) | (with_reducible refine below_after (by assumption) ?_))))).mono ?_
          rintro e wv ⟨rfl, rfl⟩
          refine hK.out _ _ (fun _ => ⟨qa, trivial⟩) ?_
          clear hK K0
          try simp only [Act.put, List.setIfInBounds_toArray, List.set_cons_zero, List.set_cons_succ]
          have hT : True := trivial
          have hSx : w2b.cell? ⟨u.heap.size, j, none⟩ = some (.int .i64 (K : Int)) ∧ True := ⟨qa, trivial⟩
          refine d_takeY (v := ?_) 12 rfl (by kernel_rfl) (fun _ _ _ h => h) (Or.inl ⟨by rfl, ?_⟩) hSx ?_
          rotate_left
          · intro wx _
            first | (go_simp; done) | (go_simp; with_reducible rfl)
          simp only [Act.put, List.setIfInBounds_toArray]
          clear hSx
          have hSx : w2b.cell? ⟨u.heap.size, j, none⟩ = some (.int .i64 (K : Int)) ∧ True := ⟨qa, trivial⟩
          refine d_takeY (v := ?_) 13 rfl (by kernel_rfl) (fun _ _ _ h => h) (Or.inl ⟨by rfl, ?_⟩) hSx ?_
          rotate_left
          · intro wx _
            first | (go_simp; done) | (go_simp; with_reducible rfl)
          simp only [Act.put]
          clear hSx
          refine d_step 15 (by kernel_rfl) rfl (fun K0 hK => ?_)
          go_simp
          refine hK.out _ _ (fun h => by exact absurd h (by decide)) ?_
          clear hK K0
          refine d_done (by kernel_rfl) ?_ _
          try simp only [Act.put, List.setIfInBounds_toArray, List.set_cons_zero, List.set_cons_succ]
          go_wp2_with fail
          go_meet
          refine ⟨w0a.heap.size, rfl, ?_, ?_, ⟨?_, ?_, ?_, ?_, ?_, ?_, ?_, ?_, ?_⟩, ⟨?_, ?_, ?_, ?_, ?_, ?_, ?_, ?_, ?_⟩, ?_⟩
          all_goals first | (simp [go_sem, q0, q1, q2, q3, q4, q5, q6, q7, q8, f0, f1, f2, f3, f4, f5, f6, f7, f8]; done) | (simp; omega) | (repeat (first | (with_reducible exact Below.refl _ _) | (with_reducible refine below_setCell ?_ (by first | (simp; done) | (simp; omega) | omega)) | (with_reducible refine below_alloc _ ?_) | (with_reducible refine below_drewN ?_ _) | (with_reducible refine below_drew_step ?_) | (with_reducible assumption) | (with_reducible refine below_after (by assumption) ?_)))
      · skip
        go_simp
        generalize hA : World.alloc _ _ = w1b
        have m_w1b : Below u.heap.size u w1b := by rw [← hA]; (repeat (first | (with_reducible exact Below.refl _ _) | (with_reducible refine below_setCell ?_ (by first | (simp; done) | (simp; omega) | omega)) | (with_reducible refine below_alloc _ ?_) | (with_reducible refine below_drewN ?_ _) | (with_reducible refine below_drew_step ?_) | (with_reducible assumption) | (with_reducible refine below_after (by assumption) ?_)))
        have n_w1b : u.heap.size ≤ w0a.heap.size := by have := m_w0a.size; exact this
        replace qa : w1b.cell? ⟨u.heap.size, j, none⟩ = some (.int .i64 (K : Int)) := cell_step (show Below w0a.heap.size w0a w1b from by rw [← hA]; (repeat (first | (with_reducible exact Below.refl _ _) | (with_reducible refine below_setCell ?_ (by first | (simp; done) | (simp; omega) | omega)) | (with_reducible refine below_alloc _ ?_) | (with_reducible refine below_drewN ?_ _) | (with_reducible refine below_drew_step ?_) | (with_reducible assumption) | (with_reducible refine below_after (by assumption) ?_)))) qa
        have q0 : w1b.cell? ⟨w0a.heap.size, 0, none⟩ = some (.int .i64 0) := by rw [← hA]; simp [go_sem]
        have q1 : w1b.cell? ⟨w0a.heap.size, 1, none⟩ = some (.int .i64 0) := by rw [← hA]; simp [go_sem]
        have q2 : w1b.cell? ⟨w0a.heap.size, 2, none⟩ = some (.int .i64 0) := by rw [← hA]; simp [go_sem]
        have q3 : w1b.cell? ⟨w0a.heap.size, 3, none⟩ = some (.int .i64 0) := by rw [← hA]; simp [go_sem]
        have q4 : w1b.cell? ⟨w0a.heap.size, 4, none⟩ = some (.int .i64 0) := by rw [← hA]; simp [go_sem]
        have q5 : w1b.cell? ⟨w0a.heap.size, 5, none⟩ = some (.int .i64 0) := by rw [← hA]; simp [go_sem]
        have q6 : w1b.cell? ⟨w0a.heap.size, 6, none⟩ = some (.slice none 0 0) := by rw [← hA]; simp [go_sem]
        have q7 : w1b.cell? ⟨w0a.heap.size, 7, none⟩ = some (.slice none 0 0) := by rw [← hA]; simp [go_sem]
        have q8 : w1b.cell? ⟨w0a.heap.size, 8, none⟩ = some (.bool false) := by rw [← hA]; simp [go_sem]
        have f0 : w1b.frozen? ⟨w0a.heap.size, 0, none⟩ = false := by rw [← hA]; simp [go_sem]
        have f1 : w1b.frozen? ⟨w0a.heap.size, 1, none⟩ = false := by rw [← hA]; simp [go_sem]
        have f2 : w1b.frozen? ⟨w0a.heap.size, 2, none⟩ = false := by rw [← hA]; simp [go_sem]
        have f3 : w1b.frozen? ⟨w0a.heap.size, 3, none⟩ = false := by rw [← hA]; simp [go_sem]
        have f4 : w1b.frozen? ⟨w0a.heap.size, 4, none⟩ = false := by rw [← hA]; simp [go_sem]
        have f5 : w1b.frozen? ⟨w0a.heap.size, 5, none⟩ = false := by rw [← hA]; simp [go_sem]
        have f6 : w1b.frozen? ⟨w0a.heap.size, 6, none⟩ = false := by rw [← hA]; simp [go_sem]
        have f7 : w1b.frozen? ⟨w0a.heap.size, 7, none⟩ = false := by rw [← hA]; simp [go_sem]
        have f8 : w1b.frozen? ⟨w0a.heap.size, 8, none⟩ = false := by rw [← hA]; simp [go_sem]
        have hBW : w0a.heap.size < w1b.heap.size := by rw [← hA]; simp
        have hBu : u.heap.size ≤ w0a.heap.size := n_w1b
        clear hA
        refine hK.out _ _ (fun _ => trivial) ?_
        clear hK K0
        try simp only [Act.put, List.setIfInBounds_toArray, List.set_cons_zero, List.set_cons_succ]
        refine d_step 3 (by kernel_rfl) rfl (fun K0 hK => ?_)
        go_simp
        go_at_call 7
        refine (H0.out _ (show Below w.heap.size w w1b from by (repeat (first | (with_reducible exact Below.refl _ _) | (with_reducible refine below_setCell ?_ (by first | (simp; done) | (simp; omega) | omega)) | (with_reducible refine below_alloc _ ?_) | (with_reducible refine below_drewN ?_ _) | (with_reducible refine below_drew_step ?_) | (with_reducible assumption) | (with_reducible refine below_after (by assumption) ?_))))).mono ?_
        rintro e wv ⟨rfl, rfl⟩
        refine hK.out _ _ (fun _ => trivial) ?_
        clear hK K0
        try simp only [Act.put, List.setIfInBounds_toArray, List.set_cons_zero, List.set_cons_succ]
        have hT : True := trivial
        refine d_takeY (v := ?_) 4 rfl (by kernel_rfl) (fun _ _ _ h => h) (Or.inl ⟨by rfl, ?_⟩) hT ?_
        rotate_left
        · intro wx _
          first | (go_simp; done) | (go_simp; with_reducible rfl)
        simp only [Act.put, List.setIfInBounds_toArray]
        refine d_more (S' := fun w' => w'.cell? ⟨u.heap.size, j, none⟩ = some (.int .i64 (K : Int)) ∧ True) (fun _ _ => trivial) _ _ _ _ ?_
        have hSx : w1b.cell? ⟨u.heap.size, j, none⟩ = some (.int .i64 (K : Int)) ∧ True := ⟨qa, trivial⟩
        refine d_takeY (v := ?_) 5 rfl (by kernel_rfl) (fun _ _ _ h => h) (Or.inl ⟨by rfl, ?_⟩) hSx ?_
        rotate_left
        · intro wx _
          first | (go_simp; done) | (go_simp; with_reducible rfl)
        simp only [Act.put]
        refine d_take (f := 30) (v := ?_) 6 rfl (by kernel_rfl) (fun _ _ _ h => h) (Or.inl ⟨by rfl, ?_⟩) hSx ?_
        rotate_left
        · intro wx hx
          obtain ⟨x0, x1⟩ := hx
          first | (go_simp; done) | (go_simp; with_reducible rfl)
        simp only [Act.put]
        clear hSx
        refine d_step 10 (by kernel_rfl) rfl (fun K0 hK => ?_)
        go_simp
        go_at_call 7
        refine (H1.out _ (show Below w.heap.size w w1b from by (repeat (first | (with_reducible exact Below.refl _ _) | (with_reducible refine below_setCell ?_ (by first | (simp; done) | (simp; omega) | omega)) | (with_reducible refine below_alloc _ ?_) | (with_reducible refine below_drewN ?_ _) | (with_reducible refine below_drew_step ?_) | (with_reducible assumption) | (with_reducible refine below_after (by assumption) ?_))))).mono ?_
        rintro e wv ⟨rfl, rfl⟩
        refine hK.out _ _ (fun _ => ⟨qa, trivial⟩) ?_
        clear hK K0
        try simp only [Act.put, List.setIfInBounds_toArray, List.set_cons_zero, List.set_cons_succ]
        have hT : True := trivial
        have hSx : w1b.cell? ⟨u.heap.size, j, none⟩ = some (.int .i64 (K : Int)) ∧ True := ⟨qa, trivial⟩
        refine d_takeY (v := ?_) 12 rfl (by kernel_rfl) (fun _ _ _ h => h) (Or.inl ⟨by rfl, ?_⟩) hSx ?_
        rotate_left
        · intro wx _
          first | (go_simp; done) | (go_simp; with_reducible rfl)
        simp only [Act.put, List.setIfInBounds_toArray]
        clear hSx
        have hSx : w1b.cell? ⟨u.heap.size, j, none⟩ = some (.int .i64 (K : Int)) ∧ True := ⟨qa, trivial⟩
        refine d_takeY (v := ?_) 13 rfl (by kernel_rfl) (fun _ _ _ h => h) (Or.inl ⟨by rfl, ?_⟩) hSx ?_
        rotate_left
        · intro wx _
          first | (go_simp; done) | (go_simp; with_reducible rfl)
        simp only [Act.put]
        clear hSx
        refine d_step 15 (by kernel_rfl) rfl (fun K0 hK => ?_)
        go_simp
        refine hK.out _ _ (fun h => by exact absurd h (by decide)) ?_
        clear hK K0
        refine d_done (by kernel_rfl) ?_ _
        try simp only [Act.put, List.setIfInBounds_toArray, List.set_cons_zero, List.set_cons_succ]
        go_wp2_with fail
        go_meet
        refine ⟨w0a.heap.size, rfl, ?_, ?_, ⟨?_, ?_, ?_, ?_, ?_, ?_, ?_, ?_, ?_⟩, ⟨?_, ?_, ?_, ?_, ?_, ?_, ?_, ?_, ?_⟩, ?_⟩
        all_goals first | (simp [go_sem, q0, q1, q2, q3, q4, q5, q6, q7, q8, f0, f1, f2, f3, f4, f5, f6, f7, f8]; done) | (simp; omega) | (repeat (first | (with_reducible exact Below.refl _ _) | (with_reducible refine below_setCell ?_ (by first | (simp; done) | (simp; omega) | omega)) | (with_reducible refine below_alloc _ ?_) | (with_reducible refine below_drewN ?_ _) | (with_reducible refine below_drew_step ?_) | (with_reducible assumption) | (with_reducible refine below_after (by assumption) ?_)))
    · skip
      go_simp
      go_at_call 7
      refine (H0.out _ (show Below w.heap.size w u.drew from by (repeat (first | (with_reducible exact Below.refl _ _) | (with_reducible refine below_setCell ?_ (by first | (simp; done) | (simp; omega) | omega)) | (with_reducible refine below_alloc _ ?_) | (with_reducible refine below_drewN ?_ _) | (with_reducible refine below_drew_step ?_) | (with_reducible assumption) | (with_reducible refine below_after (by assumption) ?_))))).mono ?_
      rintro e wv ⟨rfl, rfl⟩
      refine hK.out _ _ (fun _ => trivial) ?_
      clear hK K0
      try simp only [Act.put, List.setIfInBounds_toArray, List.set_cons_zero, List.set_cons_succ]
      have hT : True := trivial
      refine d_takeY (v := ?_) 4 rfl (by kernel_rfl) (fun _ _ _ h => h) (Or.inl ⟨by rfl, ?_⟩) hT ?_
      rotate_left
      · intro wx _
        first | (go_simp; done) | (go_simp; with_reducible rfl)
      simp only [Act.put, List.setIfInBounds_toArray]
      refine d_three 0 10 14 (by kernel_rfl) rfl rfl rfl (fun K0 hK => ?_) (fun K0 hK => ?_) (fun K0 hK => ?_)
      · skip
        go_simp
        generalize hA : World.drew (World.alloc _ _) = w1a
        have m_w1a : Below u.heap.size u w1a := by rw [← hA]; (repeat (first | (with_reducible exact Below.refl _ _) | (with_reducible refine below_setCell ?_ (by first | (simp; done) | (simp; omega) | omega)) | (with_reducible refine below_alloc _ ?_) | (with_reducible refine below_drewN ?_ _) | (with_reducible refine below_drew_step ?_) | (with_reducible assumption) | (with_reducible refine below_after (by assumption) ?_)))
        have n_w1a : u.heap.size ≤ u.heap.size := by exact Nat.le_refl _
        have qa : w1a.cell? ⟨u.heap.size, j, none⟩ = some (.int .i64 (K : Int)) := by rw [← hA, HKj.out]; exact kind_cell _ _ j hj
        clear hA
        refine hK.out _ _ (fun _ => trivial) ?_
        clear hK K0
        try simp only [Act.put, List.setIfInBounds_toArray, List.set_cons_zero, List.set_cons_succ]
        refine d_more (S' := fun w' => w'.cell? ⟨u.heap.size, j, none⟩ = some (.int .i64 (K : Int)) ∧ True) (fun _ _ => trivial) _ _ _ _ ?_
        have hSx : w1a.cell? ⟨u.heap.size, j, none⟩ = some (.int .i64 (K : Int)) ∧ True := ⟨qa, trivial⟩
        refine d_takeY (v := ?_) 5 rfl (by kernel_rfl) (fun _ _ _ h => h) (Or.inl ⟨by rfl, ?_⟩) hSx ?_
        rotate_left
        · intro wx _
          first | (go_simp; done) | (go_simp; with_reducible rfl)
        simp only [Act.put, List.setIfInBounds_toArray]
        refine d_take (f := 30) (v := ?_) 6 rfl (by kernel_rfl) (fun _ _ _ h => h) (Or.inl ⟨by rfl, ?_⟩) hSx ?_
        rotate_left
        · intro wx hx
          obtain ⟨x0, x1⟩ := hx
          first | (go_simp; done) | (go_simp; with_reducible rfl)
        simp only [Act.put]
        clear hSx
        refine d_two 10 14 (by kernel_rfl) rfl rfl (fun K0 hK => ?_) (fun K0 hK => ?_)
        · skip
          go_simp
          go_at_call 7
          refine (H1.out _ (show Below w.heap.size w w1a from by (repeat (first | (with_reducible exact Below.refl _ _) | (with_reducible refine below_setCell ?_ (by first | (simp; done) | (simp; omega) | omega)) | (with_reducible refine below_alloc _ ?_) | (with_reducible refine below_drewN ?_ _) | (with_reducible refine below_drew_step ?_) | (with_reducible assumption) | (with_reducible refine below_after (by assumption) ?_))))).mono ?_
          rintro e wv ⟨rfl, rfl⟩
          refine hK.out _ _ (fun _ => ⟨qa, trivial⟩) ?_
          clear hK K0
          try simp only [Act.put, List.setIfInBounds_toArray, List.set_cons_zero, List.set_cons_succ]
          have hT : True := trivial
          have hSx : w1a.cell? ⟨u.heap.size, j, none⟩ = some (.int .i64 (K : Int)) ∧ True := ⟨qa, trivial⟩
          refine d_takeY (v := ?_) 12 rfl (by kernel_rfl) (fun _ _ _ h => h) (Or.inl ⟨by rfl, ?_⟩) hSx ?_
          rotate_left
          · intro wx _
            first | (go_simp; done) | (go_simp; with_reducible rfl)
          simp only [Act.put, List.setIfInBounds_toArray]
          clear hSx
          have hSx : w1a.cell? ⟨u.heap.size, j, none⟩ = some (.int .i64 (K : Int)) ∧ True := ⟨qa, trivial⟩
          refine d_takeY (v := ?_) 13 rfl (by kernel_rfl) (fun _ _ _ h => h) (Or.inl ⟨by rfl, ?_⟩) hSx ?_
          rotate_left
          · intro wx _
            first | (go_simp; done) | (go_simp; with_reducible rfl)
          simp only [Act.put]
          clear hSx
          refine d_step 14 (by kernel_rfl) rfl (fun K0 hK => ?_)
          go_simp
          generalize hA : World.alloc _ _ = w4b
          have m_w4b : Below u.heap.size u w4b := by rw [← hA]; (repeat (first | (with_reducible exact Below.refl _ _) | (with_reducible refine below_setCell ?_ (by first | (simp; done) | (simp; omega) | omega)) | (with_reducible refine below_alloc _ ?_) | (with_reducible refine below_drewN ?_ _) | (with_reducible refine below_drew_step ?_) | (with_reducible assumption) | (with_reducible refine below_after (by assumption) ?_)))
          have n_w4b : u.heap.size ≤ w1a.heap.size := by have := m_w1a.size; exact this
          replace qa : w4b.cell? ⟨u.heap.size, j, none⟩ = some (.int .i64 (K : Int)) := cell_step (show Below w1a.heap.size w1a w4b from by rw [← hA]; (repeat (first | (with_reducible exact Below.refl _ _) | (with_reducible refine below_setCell ?_ (by first | (simp; done) | (simp; omega) | omega)) | (with_reducible refine below_alloc _ ?_) | (with_reducible refine below_drewN ?_ _) | (with_reducible refine below_drew_step ?_) | (with_reducible assumption) | (with_reducible refine below_after (by assumption) ?_)))) qa
          have q0 : w4b.cell? ⟨w1a.heap.size, 0, none⟩ = some (.int .i64 0) := by rw [← hA]; simp [go_sem]
          have q1 : w4b.cell? ⟨w1a.heap.size, 1, none⟩ = some (.int .i64 0) := by rw [← hA]; simp [go_sem]
          have q2 : w4b.cell? ⟨w1a.heap.size, 2, none⟩ = some (.int .i64 0) := by rw [← hA]; simp [go_sem]
          have q3 : w4b.cell? ⟨w1a.heap.size, 3, none⟩ = some (.int .i64 0) := by rw [← hA]; simp [go_sem]
          have q4 : w4b.cell? ⟨w1a.heap.size, 4, none⟩ = some (.int .i64 0) := by rw [← hA]; simp [go_sem]
          have q5 : w4b.cell? ⟨w1a.heap.size, 5, none⟩ = some (.int .i64 0) := by rw [← hA]; simp [go_sem]
          have q6 : w4b.cell? ⟨w1a.heap.size, 6, none⟩ = some (.slice none 0 0) := by rw [← hA]; simp [go_sem]
          have q7 : w4b.cell? ⟨w1a.heap.size, 7, none⟩ = some (.slice none 0 0) := by rw [← hA]; simp [go_sem]
          have q8 : w4b.cell? ⟨w1a.heap.size, 8, none⟩ = some (.bool false) := by rw [← hA]; simp [go_sem]
          have f0 : w4b.frozen? ⟨w1a.heap.size, 0, none⟩ = false := by rw [← hA]; simp [go_sem]
          have f1 : w4b.frozen? ⟨w1a.heap.size, 1, none⟩ = false := by rw [← hA]; simp [go_sem]
          have f2 : w4b.frozen? ⟨w1a.heap.size, 2, none⟩ = false := by rw [← hA]; simp [go_sem]
          have f3 : w4b.frozen? ⟨w1a.heap.size, 3, none⟩ = false := by rw [← hA]; simp [go_sem]
          have f4 : w4b.frozen? ⟨w1a.heap.size, 4, none⟩ = false := by rw [← hA]; simp [go_sem]
          have f5 : w4b.frozen? ⟨w1a.heap.size, 5, none⟩ = false := by rw [← hA]; simp [go_sem]
          have f6 : w4b.frozen? ⟨w1a.heap.size, 6, none⟩ = false := by rw [← hA]; simp [go_sem]
          have f7 : w4b.frozen? ⟨w1a.heap.size, 7, none⟩ = false := by rw [← hA]; simp [go_sem]
          have f8 : w4b.frozen? ⟨w1a.heap.size, 8, none⟩ = false := by rw [← hA]; simp [go_sem]
          have hBW : w1a.heap.size < w4b.heap.size := by rw [← hA]; simp
          have hBu : u.heap.size ≤ w1a.heap.size := n_w4b
          clear hA
          refine hK.out _ _ (fun _ => ⟨qa, trivial⟩) ?_
          clear hK K0
          try simp only [Act.put, List.setIfInBounds_toArray, List.set_cons_zero, List.set_cons_succ]
          refine d_step 15 (by kernel_rfl) rfl (fun K0 hK => ?_)
          go_simp
          refine hK.out _ _ (fun h => by exact absurd h (by decide)) ?_
          clear hK K0
          refine d_done (by kernel_rfl) ?_ _
          try simp only [Act.put, List.setIfInBounds_toArray, List.set_cons_zero, List.set_cons_succ]
          go_wp2_with fail
          go_meet
          refine ⟨w1a.heap.size, rfl, ?_, ?_, ⟨?_, ?_, ?_, ?_, ?_, ?_, ?_, ?_, ?_⟩, ⟨?_, ?_, ?_, ?_, ?_, ?_, ?_, ?_, ?_⟩, ?_⟩
          all_goals first | (simp [go_sem, q0, q1, q2, q3, q4, q5, q6, q7, q8, f0, f1, f2, f3, f4, f5, f6, f7, f8]; done) | (simp; omega) | (repeat (first | (with_reducible exact Below.refl _ _) | (with_reducible refine below_setCell ?_ (by first | (simp; done) | (simp; omega) | omega)) | (with_reducible refine below_alloc _ ?_) | (with_reducible refine below_drewN ?_ _) | (with_reducible refine below_drew_step ?_) | (with_reducible assumption) | (with_reducible refine below_after (by assumption) ?_)))
        · skip
          go_simp
          generalize hA : World.alloc _ _ = w2b
          have m_w2b : Below u.heap.size u w2b := by rw [← hA]; (repeat (first | (with_reducible exact Below.refl _ _) | (with_reducible refine below_setCell ?_ (by first | (simp; done) | (simp; omega) | omega)) | (with_reducible refine below_alloc _ ?_) | (with_reducible refine below_drewN ?_ _) | (with_reducible refine below_drew_step ?_) | (with_reducible assumption) | (with_reducible refine below_after (by assumption) ?_)))
          have n_w2b : u.heap.size ≤ w1a.heap.size := by have := m_w1a.size; exact this
          replace qa : w2b.cell? ⟨u.heap.size, j, none⟩ = some (.int .i64 (K : Int)) := cell_step (show Below w1a.heap.size w1a w2b from by rw [← hA]; (repeat (first | (with_reducible exact Below.refl _ _) | (with_reducible refine below_setCell ?_ (by first | (simp; done) | (simp; omega) | omega)) | (with_reducible refine below_alloc _ ?_) | (with_reducible refine below_drewN ?_ _) | (with_reducible refine below_drew_step ?_) | (with_reducible assumption) | (with_reducible refine below_after (by assumption) ?_)))) qa
          have q0 : w2b.cell? ⟨w1a.heap.size, 0, none⟩ = some (.int .i64 0) := by rw [← hA]; simp [go_sem]
          have q1 : w2b.cell? ⟨w1a.heap.size, 1, none⟩ = some (.int .i64 0) := by rw [← hA]; simp [go_sem]
          have q2 : w2b.cell? ⟨w1a.heap.size, 2, none⟩ = some (.int .i64 0) := by rw [← hA]; simp [go_sem]
          have q3 : w2b.cell? ⟨w1a.heap.size, 3, none⟩ = some (.int .i64 0) := by rw [← hA]; simp [go_sem]
          have q4 : w2b.cell? ⟨w1a.heap.size, 4, none⟩ = some (.int .i64 0) := by rw [← hA]; simp [go_sem]
          have q5 : w2b.cell? ⟨w1a.heap.size, 5, none⟩ = some (.int .i64 0) := by rw [← hA]; simp [go_sem]
          have q6 : w2b.cell? ⟨w1a.heap.size, 6, none⟩ = some (.slice none 0 0) := by rw [← hA]; simp [go_sem]
          have q7 : w2b.cell? ⟨w1a.heap.size, 7, none⟩ = some (.slice none 0 0) := by rw [← hA]; simp [go_sem]
          have q8 : w2b.cell? ⟨w1a.heap.size, 8, none⟩ = some (.bool false) := by rw [← hA]; simp [go_sem]
          have f0 : w2b.frozen? ⟨w1a.heap.size, 0, none⟩ = false := by rw [← hA]; simp [go_sem]
          have f1 : w2b.frozen? ⟨w1a.heap.size, 1, none⟩ = false := by rw [← hA]; simp [go_sem]
          have f2 : w2b.frozen? ⟨w1a.heap.size, 2, none⟩ = false := by rw [← hA]; simp [go_sem]
          have f3 : w2b.frozen? ⟨w1a.heap.size, 3, none⟩ = false := by rw [← hA]; simp [go_sem]
          have f4 : w2b.frozen? ⟨w1a.heap.size, 4, none⟩ = false := by rw [← hA]; simp [go_sem]
          have f5 : w2b.frozen? ⟨w1a.heap.size, 5, none⟩ = false := by rw [← hA]; simp [go_sem]
          have f6 : w2b.frozen? ⟨w1a.heap.size, 6, none⟩ = false := by rw [← hA]; simp [go_sem]
          have f7 : w2b.frozen? ⟨w1a.heap.size, 7, none⟩ = false := by rw [← hA]; simp [go_sem]
          have f8 : w2b.frozen? ⟨w1a.heap.size, 8, none⟩ = false := by rw [← hA]; simp [go_sem]
          have hBW : w1a.heap.size < w2b.heap.size := by rw [← hA]; simp
          have hBu : u.heap.size ≤ w1a.heap.size := n_w2b
          clear hA
          refine hK.out _ _ (fun _ => ⟨qa, trivial⟩) ?_
          clear hK K0
          try simp only [Act.put, List.setIfInBounds_toArray, List.set_cons_zero, List.set_cons_succ]
          refine d_step 10 (by kernel_rfl) rfl (fun K0 hK => ?_)
          go_simp
          go_at_call 7
          refine (H1.out _ (show Below w.heap.size w w2b from by (repeat (first | (with_reducible exact Below.refl _ _) | (with_reducible refine below_setCell ?_ (by first | (simp; done) | (simp; omega) | omega)) | (with_reducible refine below_alloc _ ?_) | (with_reducible refine below_drewN ?_ _) | (with_reducible refine below_drew_step ?_) | (with_reducible assumption) | (with_reducible refine below_after (by assumption) ?_))))).mono ?_
          rintro e wv ⟨rfl, rfl⟩
          refine hK.out _ _ (fun _ => ⟨qa, trivial⟩) ?_
          clear hK K0
          try simp only [Act.put, List.setIfInBounds_toArray, List.set_cons_zero, List.set_cons_succ]
          have hT : True := trivial
          have hSx : w2b.cell? ⟨u.heap.size, j, none⟩ = some (.int .i64 (K : Int)) ∧ True := ⟨qa, trivial⟩
          refine d_takeY (v := ?_) 12 rfl (by kernel_rfl) (fun _ _ _ h => h) (Or.inl ⟨by rfl, ?_⟩) hSx ?_
          rotate_left
          · intro wx _
            first | (go_simp; done) | (go_simp; with_reducible rfl)
          simp only [Act.put, List.setIfInBounds_toArray]
          clear hSx
          have hSx : w2b.cell? ⟨u.heap.size, j, none⟩ = some (.int .i64 (K : Int)) ∧ True := ⟨qa, trivial⟩
          refine d_takeY (v := ?_) 13 rfl (by kernel_rfl) (fun _ _ _ h => h) (Or.inl ⟨by rfl, ?_⟩) hSx ?_
          rotate_left
          · intro wx _
            first | (go_simp; done) | (go_simp; with_reducible rfl)
          simp only [Act.put]
          clear hSx
          refine d_step 15 (by kernel_rfl) rfl (fun K0 hK => ?_)
          go_simp
          refine hK.out _ _ (fun h => by exact absurd h (by decide)) ?_
          clear hK K0
          refine d_done (by kernel_rfl) ?_ _
          try simp only [Act.put, List.setIfInBounds_toArray, List.set_cons_zero, List.set_cons_succ]
          go_wp2_with fail
          go_meet
          refine ⟨w1a.heap.size, rfl, ?_, ?_, ⟨?_, ?_, ?_, ?_, ?_, ?_, ?_, ?_, ?_⟩, ⟨?_, ?_, ?_, ?_, ?_, ?_, ?_, ?_, ?_⟩, ?_⟩
          all_goals first | (simp [go_sem, q0, q1, q2, q3, q4, q5, q6, q7, q8, f0, f1, f2, f3, f4, f5, f6, f7, f8]; done) | (simp; omega) | (repeat (first | (with_reducible exact Below.refl _ _) | (with_reducible refine below_setCell ?_ (by first | (simp; done) | (simp; omega) | omega)) | (with_reducible refine below_alloc _ ?_) | (with_reducible refine below_drewN ?_ _) | (with_reducible refine below_drew_step ?_) | (with_reducible assumption) | (with_reducible refine below_after (by assumption) ?_)))
      · skip
        go_simp
        go_at_call 7
        refine (H1.out _ (show Below w.heap.size w u.drew from by (repeat (first | (with_reducible exact Below.refl _ _) | (with_reducible refine below_setCell ?_ (by first | (simp; done) | (simp; omega) | omega)) | (with_reducible refine below_alloc _ ?_) | (with_reducible refine below_drewN ?_ _) | (with_reducible refine below_drew_step ?_) | (with_reducible assumption) | (with_reducible refine below_after (by assumption) ?_))))).mono ?_
        rintro e wv ⟨rfl, rfl⟩
        refine hK.out _ _ (fun _ => trivial) ?_
        clear hK K0
        try simp only [Act.put, List.setIfInBounds_toArray, List.set_cons_zero, List.set_cons_succ]
        have hT : True := trivial
        refine d_takeY (v := ?_) 12 rfl (by kernel_rfl) (fun _ _ _ h => h) (Or.inl ⟨by rfl, ?_⟩) hT ?_
        rotate_left
        · intro wx _
          first | (go_simp; done) | (go_simp; with_reducible rfl)
        simp only [Act.put, List.setIfInBounds_toArray]
        refine d_two 0 14 (by kernel_rfl) rfl rfl (fun K0 hK => ?_) (fun K0 hK => ?_)
        · skip
          go_simp
          generalize hA : World.drew (World.alloc _ _) = w2a
          have m_w2a : Below u.heap.size u w2a := by rw [← hA]; (repeat (first | (with_reducible exact Below.refl _ _) | (with_reducible refine below_setCell ?_ (by first | (simp; done) | (simp; omega) | omega)) | (with_reducible refine below_alloc _ ?_) | (with_reducible refine below_drewN ?_ _) | (with_reducible refine below_drew_step ?_) | (with_reducible assumption) | (with_reducible refine below_after (by assumption) ?_)))
          have n_w2a : u.heap.size ≤ u.heap.size := by exact Nat.le_refl _
          have qa : w2a.cell? ⟨u.heap.size, j, none⟩ = some (.int .i64 (K : Int)) := by rw [← hA, HKj.out]; exact kind_cell _ _ j hj
          clear hA
          refine hK.out _ _ (fun _ => trivial) ?_
          clear hK K0
          try simp only [Act.put, List.setIfInBounds_toArray, List.set_cons_zero, List.set_cons_succ]
          refine d_more (S' := fun w' => w'.cell? ⟨u.heap.size, j, none⟩ = some (.int .i64 (K : Int)) ∧ True) (fun _ _ => trivial) _ _ _ _ ?_
          have hSx : w2a.cell? ⟨u.heap.size, j, none⟩ = some (.int .i64 (K : Int)) ∧ True := ⟨qa, trivial⟩
          refine d_takeY (v := ?_) 5 rfl (by kernel_rfl) (fun _ _ _ h => h) (Or.inl ⟨by rfl, ?_⟩) hSx ?_
          rotate_left
          · intro wx _
            first | (go_simp; done) | (go_simp; with_reducible rfl)
          simp only [Act.put, List.setIfInBounds_toArray]
          refine d_take (f := 30) (v := ?_) 6 rfl (by kernel_rfl) (fun _ _ _ h => h) (Or.inl ⟨by rfl, ?_⟩) hSx ?_
          rotate_left
          · intro wx hx
            obtain ⟨x0, x1⟩ := hx
            first | (go_simp; done) | (go_simp; with_reducible rfl)
          simp only [Act.put]
          clear hSx
          have hSx : w2a.cell? ⟨u.heap.size, j, none⟩ = some (.int .i64 (K : Int)) ∧ True := ⟨qa, trivial⟩
          refine d_takeY (v := ?_) 13 rfl (by kernel_rfl) (fun _ _ _ h => h) (Or.inl ⟨by rfl, ?_⟩) hSx ?_
          rotate_left
          · intro wx _
            first | (go_simp; done) | (go_simp; with_reducible rfl)
          simp only [Act.put]
          clear hSx
          refine d_step 14 (by kernel_rfl) rfl (fun K0 hK => ?_)
          go_simp
          generalize hA : World.alloc _ _ = w4b
          have m_w4b : Below u.heap.size u w4b := by rw [← hA]; (repeat (first | (with_reducible exact Below.refl _ _) | (with_reducible refine below_setCell ?_ (by first | (simp; done) | (simp; omega) | omega)) | (with_reducible refine below_alloc _ ?_) | (with_reducible refine below_drewN ?_ _) | (with_reducible refine below_drew_step ?_) | (with_reducible assumption) | (with_reducible refine below_after (by assumption) ?_)))
          have n_w4b : u.heap.size ≤ w2a.heap.size := by have := m_w2a.size; exact this
          replace qa : w4b.cell? ⟨u.heap.size, j, none⟩ = some (.int .i64 (K : Int)) := cell_step (show Below w2a.heap.size w2a w4b from by rw [← hA]; (repeat (first | (with_reducible exact Below.refl _ _) | (with_reducible refine below_setCell ?_ (by first | (simp; done) | (simp; omega) | omega)) | (with_reducible refine below_alloc _ ?_) | (with_reducible refine below_drewN ?_ _) | (with_reducible refine below_drew_step ?_) | (with_reducible assumption) | (with_reducible refine below_after (by assumption) ?_)))) qa
          have q0 : w4b.cell? ⟨w2a.heap.size, 0, none⟩ = some (.int .i64 0) := by rw [← hA]; simp [go_sem]
          have q1 : w4b.cell? ⟨w2a.heap.size, 1, none⟩ = some (.int .i64 0) := by rw [← hA]; simp [go_sem]
          have q2 : w4b.cell? ⟨w2a.heap.size, 2, none⟩ = some (.int .i64 0) := by rw [← hA]; simp [go_sem]
          have q3 : w4b.cell? ⟨w2a.heap.size, 3, none⟩ = some (.int .i64 0) := by rw [← hA]; simp [go_sem]
          have q4 : w4b.cell? ⟨w2a.heap.size, 4, none⟩ = some (.int .i64 0) := by rw [← hA]; simp [go_sem]
          have q5 : w4b.cell? ⟨w2a.heap.size, 5, none⟩ = some (.int .i64 0) := by rw [← hA]; simp [go_sem]
          have q6 : w4b.cell? ⟨w2a.heap.size, 6, none⟩ = some (.slice none 0 0) := by rw [← hA]; simp [go_sem]
          have q7 : w4b.cell? ⟨w2a.heap.size, 7, none⟩ = some (.slice none 0 0) := by rw [← hA]; simp [go_sem]
          have q8 : w4b.cell? ⟨w2a.heap.size, 8, none⟩ = some (.bool false) := by rw [← hA]; simp [go_sem]
          have f0 : w4b.frozen? ⟨w2a.heap.size, 0, none⟩ = false := by rw [← hA]; simp [go_sem]
          have f1 : w4b.frozen? ⟨w2a.heap.size, 1, none⟩ = false := by rw [← hA]; simp [go_sem]
          have f2 : w4b.frozen? ⟨w2a.heap.size, 2, none⟩ = false := by rw [← hA]; simp [go_sem]
          have f3 : w4b.frozen? ⟨w2a.heap.size, 3, none⟩ = false := by rw [← hA]; simp [go_sem]
          have f4 : w4b.frozen? ⟨w2a.heap.size, 4, none⟩ = false := by rw [← hA]; simp [go_sem]
          have f5 : w4b.frozen? ⟨w2a.heap.size, 5, none⟩ = false := by rw [← hA]; simp [go_sem]
          have f6 : w4b.frozen? ⟨w2a.heap.size, 6, none⟩ = false := by rw [← hA]; simp [go_sem]
          have f7 : w4b.frozen? ⟨w2a.heap.size, 7, none⟩ = false := by rw [← hA]; simp [go_sem]
          have f8 : w4b.frozen? ⟨w2a.heap.size, 8, none⟩ = false := by rw [← hA]; simp [go_sem]
          have hBW : w2a.heap.size < w4b.heap.size := by rw [← hA]; simp
          have hBu : u.heap.size ≤ w2a.heap.size := n_w4b
          clear hA
          refine hK.out _ _ (fun _ => ⟨qa, trivial⟩) ?_
          clear hK K0
          try simp only [Act.put, List.setIfInBounds_toArray, List.set_cons_zero, List.set_cons_succ]
          refine d_step 15 (by kernel_rfl) rfl (fun K0 hK => ?_)
          go_simp
          refine hK.out _ _ (fun h => by exact absurd h (by decide)) ?_
          clear hK K0
          refine d_done (by kernel_rfl) ?_ _
          try simp only [Act.put, List.setIfInBounds_toArray, List.set_cons_zero, List.set_cons_succ]
          go_wp2_with fail
          go_meet
          refine ⟨w2a.heap.size, rfl, ?_, ?_, ⟨?_, ?_, ?_, ?_, ?_, ?_, ?_, ?_, ?_⟩, ⟨?_, ?_, ?_, ?_, ?_, ?_, ?_, ?_, ?_⟩, ?_⟩
          all_goals first | (simp [go_sem, q0, q1, q2, q3, q4, q5, q6, q7, q8, f0, f1, f2, f3, f4, f5, f6, f7, f8]; done) | (simp; omega) | (repeat (first | (with_reducible exact Below.refl _ _) | (with_reducible refine below_setCell ?_ (by first | (simp; done) | (simp; omega) | omega)) | (with_reducible refine below_alloc _ ?_) | (with_reducible refine below_drewN ?_ _) | (with_reducible refine below_drew_step ?_) | (with_reducible assumption) | (with_reducible refine below_after (by assumption) ?_)))
        · skip
          go_simp
          generalize hA : World.drew (World.alloc _ _) = w2b
          have m_w2b : Below u.heap.size u w2b := by rw [← hA]; (repeat (first | (with_reducible exact Below.refl _ _) | (with_reducible refine below_setCell ?_ (by first | (simp; done) | (simp; omega) | omega)) | (with_reducible refine below_alloc _ ?_) | (with_reducible refine below_drewN ?_ _) | (with_reducible refine below_drew_step ?_) | (with_reducible assumption) | (with_reducible refine below_after (by assumption) ?_)))
          have n_w2b : u.heap.size ≤ u.heap.size := by exact Nat.le_refl _
          have q0 : w2b.cell? ⟨u.heap.size, 0, none⟩ = some (.int .i64 0) := by rw [← hA]; simp [go_sem]
          have q1 : w2b.cell? ⟨u.heap.size, 1, none⟩ = some (.int .i64 0) := by rw [← hA]; simp [go_sem]
          have q2 : w2b.cell? ⟨u.heap.size, 2, none⟩ = some (.int .i64 0) := by rw [← hA]; simp [go_sem]
          have q3 : w2b.cell? ⟨u.heap.size, 3, none⟩ = some (.int .i64 0) := by rw [← hA]; simp [go_sem]
          have q4 : w2b.cell? ⟨u.heap.size, 4, none⟩ = some (.int .i64 0) := by rw [← hA]; simp [go_sem]
          have q5 : w2b.cell? ⟨u.heap.size, 5, none⟩ = some (.int .i64 0) := by rw [← hA]; simp [go_sem]
          have q6 : w2b.cell? ⟨u.heap.size, 6, none⟩ = some (.slice none 0 0) := by rw [← hA]; simp [go_sem]
          have q7 : w2b.cell? ⟨u.heap.size, 7, none⟩ = some (.slice none 0 0) := by rw [← hA]; simp [go_sem]
          have q8 : w2b.cell? ⟨u.heap.size, 8, none⟩ = some (.bool false) := by rw [← hA]; simp [go_sem]
          have f0 : w2b.frozen? ⟨u.heap.size, 0, none⟩ = false := by rw [← hA]; simp [go_sem]
          have f1 : w2b.frozen? ⟨u.heap.size, 1, none⟩ = false := by rw [← hA]; simp [go_sem]
          have f2 : w2b.frozen? ⟨u.heap.size, 2, none⟩ = false := by rw [← hA]; simp [go_sem]
          have f3 : w2b.frozen? ⟨u.heap.size, 3, none⟩ = false := by rw [← hA]; simp [go_sem]
          have f4 : w2b.frozen? ⟨u.heap.size, 4, none⟩ = false := by rw [← hA]; simp [go_sem]
          have f5 : w2b.frozen? ⟨u.heap.size, 5, none⟩ = false := by rw [← hA]; simp [go_sem]
          have f6 : w2b.frozen? ⟨u.heap.size, 6, none⟩ = false := by rw [← hA]; simp [go_sem]
          have f7 : w2b.frozen? ⟨u.heap.size, 7, none⟩ = false := by rw [← hA]; simp [go_sem]
          have f8 : w2b.frozen? ⟨u.heap.size, 8, none⟩ = false := by rw [← hA]; simp [go_sem]
          have hBW : u.heap.size < w2b.heap.size := by rw [← hA]; simp
          have hBu : u.heap.size ≤ u.heap.size := n_w2b
          clear hA
          refine hK.out _ _ (fun _ => trivial) ?_
          clear hK K0
          try simp only [Act.put, List.setIfInBounds_toArray, List.set_cons_zero, List.set_cons_succ]
          refine d_step 0 (by kernel_rfl) rfl (fun K0 hK => ?_)
          go_simp
          generalize hA : World.alloc _ _ = w3a
          have m_w3a : Below u.heap.size u w3a := by rw [← hA]; (repeat (first | (with_reducible exact Below.refl _ _) | (with_reducible refine below_setCell ?_ (by first | (simp; done) | (simp; omega) | omega)) | (with_reducible refine below_alloc _ ?_) | (with_reducible refine below_drewN ?_ _) | (with_reducible refine below_drew_step ?_) | (with_reducible assumption) | (with_reducible refine below_after (by assumption) ?_)))
          have n_w3a : u.heap.size ≤ w2b.heap.size := by have := m_w2b.size; exact this
          replace q0 : w3a.cell? ⟨u.heap.size, 0, none⟩ = _ := cell_step (show Below w2b.heap.size w2b w3a from by rw [← hA]; (repeat (first | (with_reducible exact Below.refl _ _) | (with_reducible refine below_setCell ?_ (by first | (simp; done) | (simp; omega) | omega)) | (with_reducible refine below_alloc _ ?_) | (with_reducible refine below_drewN ?_ _) | (with_reducible refine below_drew_step ?_) | (with_reducible assumption) | (with_reducible refine below_after (by assumption) ?_)))) q0
          replace q1 : w3a.cell? ⟨u.heap.size, 1, none⟩ = _ := cell_step (show Below w2b.heap.size w2b w3a from by rw [← hA]; (repeat (first | (with_reducible exact Below.refl _ _) | (with_reducible refine below_setCell ?_ (by first | (simp; done) | (simp; omega) | omega)) | (with_reducible refine below_alloc _ ?_) | (with_reducible refine below_drewN ?_ _) | (with_reducible refine below_drew_step ?_) | (with_reducible assumption) | (with_reducible refine below_after (by assumption) ?_)))) q1
          replace q2 : w3a.cell? ⟨u.heap.size, 2, none⟩ = _ := cell_step (show Below w2b.heap.size w2b w3a from by rw [← hA]; (repeat (first | (with_reducible exact Below.refl _ _) | (with_reducible refine below_setCell ?_ (by first | (simp; done) | (simp; omega) | omega)) | (with_reducible refine below_alloc _ ?_) | (with_reducible refine below_drewN ?_ _) | (with_reducible refine below_drew_step ?_) | (with_reducible assumption) | (with_reducible refine below_after (by assumption) ?_)))) q2
          replace q3 : w3a.cell? ⟨u.heap.size, 3, none⟩ = _ := cell_step (show Below w2b.heap.size w2b w3a from by rw [← hA]; (repeat (first | (with_reducible exact Below.refl _ _) | (with_reducible refine below_setCell ?_ (by first | (simp; done) | (simp; omega) | omega)) | (with_reducible refine below_alloc _ ?_) | (with_reducible refine below_drewN ?_ _) | (with_reducible refine below_drew_step ?_) | (with_reducible assumption) | (with_reducible refine below_after (by assumption) ?_)))) q3
          replace q4 : w3a.cell? ⟨u.heap.size, 4, none⟩ = _ := cell_step (show Below w2b.heap.size w2b w3a from by rw [← hA]; (repeat (first | (with_reducible exact Below.refl _ _) | (with_reducible refine below_setCell ?_ (by first | (simp; done) | (simp; omega) | omega)) | (with_reducible refine below_alloc _ ?_) | (with_reducible refine below_drewN ?_ _) | (with_reducible refine below_drew_step ?_) | (with_reducible assumption) | (with_reducible refine below_after (by assumption) ?_)))) q4
          replace q5 : w3a.cell? ⟨u.heap.size, 5, none⟩ = _ := cell_step (show Below w2b.heap.size w2b w3a from by rw [← hA]; (repeat (first | (with_reducible exact Below.refl _ _) | (with_reducible refine below_setCell ?_ (by first | (simp; done) | (simp; omega) | omega)) | (with_reducible refine below_alloc _ ?_) | (with_reducible refine below_drewN ?_ _) | (with_reducible refine below_drew_step ?_) | (with_reducible assumption) | (with_reducible refine below_after (by assumption) ?_)))) q5
          replace q6 : w3a.cell? ⟨u.heap.size, 6, none⟩ = _ := cell_step (show Below w2b.heap.size w2b w3a from by rw [← hA]; (repeat (first | (with_reducible exact Below.refl _ _) | (with_reducible refine below_setCell ?_ (by first | (simp; done) | (simp; omega) | omega)) | (with_reducible refine below_alloc _ ?_) | (with_reducible refine below_drewN ?_ _) | (with_reducible refine below_drew_step ?_) | (with_reducible assumption) | (with_reducible refine below_after (by assumption) ?_)))) q6
          replace q7 : w3a.cell? ⟨u.heap.size, 7, none⟩ = _ := cell_step (show Below w2b.heap.size w2b w3a from by rw [← hA]; (repeat (first | (with_reducible exact Below.refl _ _) | (with_reducible refine below_setCell ?_ (by first | (simp; done) | (simp; omega) | omega)) | (with_reducible refine below_alloc _ ?_) | (with_reducible refine below_drewN ?_ _) | (with_reducible refine below_drew_step ?_) | (with_reducible assumption) | (with_reducible refine below_after (by assumption) ?_)))) q7
          replace q8 : w3a.cell? ⟨u.heap.size, 8, none⟩ = _ := cell_step (show Below w2b.heap.size w2b w3a from by rw [← hA]; (repeat (first | (with_reducible exact Below.refl _ _) | (with_reducible refine below_setCell ?_ (by first | (simp; done) | (simp; omega) | omega)) | (with_reducible refine below_alloc _ ?_) | (with_reducible refine below_drewN ?_ _) | (with_reducible refine below_drew_step ?_) | (with_reducible assumption) | (with_reducible refine below_after (by assumption) ?_)))) q8
          replace f0 : w3a.frozen? ⟨u.heap.size, 0, none⟩ = false := ((show Below w2b.heap.size w2b w3a from by rw [← hA]; (repeat (first | (with_reducible exact Below.refl _ _) | (with_reducible refine below_setCell ?_ (by first | (simp; done) | (simp; omega) | omega)) | (with_reducible refine below_alloc _ ?_) | (with_reducible refine below_drewN ?_ _) | (with_reducible refine below_drew_step ?_) | (with_reducible assumption) | (with_reducible refine below_after (by assumption) ?_)))).frozen (p := ⟨u.heap.size, 0, none⟩) hBW).trans f0
          replace f1 : w3a.frozen? ⟨u.heap.size, 1, none⟩ = false := ((show Below w2b.heap.size w2b w3a from by rw [← hA]; (repeat (first | (with_reducible exact Below.refl _ _) | (with_reducible refine below_setCell ?_ (by first | (simp; done) | (simp; omega) | omega)) | (with_reducible refine below_alloc _ ?_) | (with_reducible refine below_drewN ?_ _) | (with_reducible refine below_drew_step ?_) | (with_reducible assumption) | (with_reducible refine below_after (by assumption) ?_)))).frozen (p := ⟨u.heap.size, 1, none⟩) hBW).trans f1
          replace f2 : w3a.frozen? ⟨u.heap.size, 2, none⟩ = false := ((show Below w2b.heap.size w2b w3a from by rw [← hA]; (repeat (first | (with_reducible exact Below.refl _ _) | (with_reducible refine below_setCell ?_ (by first | (simp; done) | (simp; omega) | omega)) | (with_reducible refine below_alloc _ ?_) | (with_reducible refine below_drewN ?_ _) | (with_reducible refine below_drew_step ?_) | (with_reducible assumption) | (with_reducible refine below_after (by assumption) ?_)))).frozen (p := ⟨u.heap.size, 2, none⟩) hBW).trans f2
          replace f3 : w3a.frozen? ⟨u.heap.size, 3, none⟩ = false := ((show Below w2b.heap.size w2b w3a from by rw [← hA]; (repeat (first | (with_reducible exact Below.refl _ _) | (with_reducible refine below_setCell ?_ (by first | (simp; done) | (simp; omega) | omega)) | (with_reducible refine below_alloc _ ?_) | (with_reducible refine below_drewN ?_ _) | (with_reducible refine below_drew_step ?_) | (with_reducible assumption) | (with_reducible refine below_after (by assumption) ?_)))).frozen (p := ⟨u.heap.size, 3, none⟩) hBW).trans f3
          replace f4 : w3a.frozen? ⟨u.heap.size, 4, none⟩ = false := ((show Below w2b.heap.size w2b w3a from by rw [← hA]; (repeat (first | (with_reducible exact Below.refl _ _) | (with_reducible refine below_setCell ?_ (by first | (simp; done) | (simp; omega) | omega)) | (with_reducible refine below_alloc _ ?_) | (with_reducible refine below_drewN ?_ _) | (with_reducible refine below_drew_step ?_) | (with_reducible assumption) | (with_reducible refine below_after (by assumption) ?_)))).frozen (p := ⟨u.heap.size, 4, none⟩) hBW).trans f4
          replace f5 : w3a.frozen? ⟨u.heap.size, 5, none⟩ = false := ((show Below w2b.heap.size w2b w3a from by rw [← hA]; (repeat (first | (with_reducible exact Below.refl _ _) | (with_reducible refine below_setCell ?_ (by first | (simp; done) | (simp; omega) | omega)) | (with_reducible refine below_alloc _ ?_) | (with_reducible refine below_drewN ?_ _) | (with_reducible refine below_drew_step ?_) | (with_reducible assumption) | (with_reducible refine below_after (by assumption) ?_)))).frozen (p := ⟨u.heap.size, 5, none⟩) hBW).trans f5
          replace f6 : w3a.frozen? ⟨u.heap.size, 6, none⟩ = false := ((show Below w2b.heap.size w2b w3a from by rw [← hA]; (repeat (first | (with_reducible exact Below.refl _ _) | (with_reducible refine below_setCell ?_ (by first | (simp; done) | (simp; omega) | omega)) | (with_reducible refine below_alloc _ ?_) | (with_reducible refine below_drewN ?_ _) | (with_reducible refine below_drew_step ?_) | (with_reducible assumption) | (with_reducible refine below_after (by assumption) ?_)))).frozen (p := ⟨u.heap.size, 6, none⟩) hBW).trans f6
          replace f7 : w3a.frozen? ⟨u.heap.size, 7, none⟩ = false := ((show Below w2b.heap.size w2b w3a from by rw [← hA]; (repeat (first | (with_reducible exact Below.refl _ _) | (with_reducible refine below_setCell ?_ (by first | (simp; done) | (simp; omega) | omega)) | (with_reducible refine below_alloc _ ?_) | (with_reducible refine below_drewN ?_ _) | (with_reducible refine below_drew_step ?_) | (with_reducible assumption) | (with_reducible refine below_after (by assumption) ?_)))).frozen (p := ⟨u.heap.size, 7, none⟩) hBW).trans f7
          replace f8 : w3a.frozen? ⟨u.heap.size, 8, none⟩ = false := ((show Below w2b.heap.size w2b w3a from by rw [← hA]; (repeat (first | (with_reducible exact Below.refl _ _) | (with_reducible refine below_setCell ?_ (by first | (simp; done) | (simp; omega) | omega)) | (with_reducible refine below_alloc _ ?_) | (with_reducible refine below_drewN ?_ _) | (with_reducible refine below_drew_step ?_) | (with_reducible assumption) | (with_reducible refine below_after (by assumption) ?_)))).frozen (p := ⟨u.heap.size, 8, none⟩) hBW).trans f8
          replace hBW : u.heap.size < w3a.heap.size := Nat.lt_of_lt_of_le hBW (show Below w2b.heap.size w2b w3a from by rw [← hA]; (repeat (first | (with_reducible exact Below.refl _ _) | (with_reducible refine below_setCell ?_ (by first | (simp; done) | (simp; omega) | omega)) | (with_reducible refine below_alloc _ ?_) | (with_reducible refine below_drewN ?_ _) | (with_reducible refine below_drew_step ?_) | (with_reducible assumption) | (with_reducible refine below_after (by assumption) ?_)))).size
          have qa : w3a.cell? ⟨w2b.heap.size, j, none⟩ = some (.int .i64 (K : Int)) := by rw [← hA, HKj.out]; exact kind_cell _ _ j hj
          clear hA
          refine hK.out _ _ (fun _ => trivial) ?_
          clear hK K0
          try simp only [Act.put, List.setIfInBounds_toArray, List.set_cons_zero, List.set_cons_succ]
          refine d_more (S' := fun w' => w'.cell? ⟨w2b.heap.size, j, none⟩ = some (.int .i64 (K : Int)) ∧ True) (fun _ _ => trivial) _ _ _ _ ?_
          have hSx : w3a.cell? ⟨w2b.heap.size, j, none⟩ = some (.int .i64 (K : Int)) ∧ True := ⟨qa, trivial⟩
          refine d_takeY (v := ?_) 5 rfl (by kernel_rfl) (fun _ _ _ h => h) (Or.inl ⟨by rfl, ?_⟩) hSx ?_
          rotate_left
          · intro wx _
            first | (go_simp; done) | (go_simp; with_reducible rfl)
          simp only [Act.put, List.setIfInBounds_toArray]
          refine d_take (f := 30) (v := ?_) 6 rfl (by kernel_rfl) (fun _ _ _ h => h) (Or.inl ⟨by rfl, ?_⟩) hSx ?_
          rotate_left
          · intro wx hx
            obtain ⟨x0, x1⟩ := hx
            first | (go_simp; done) | (go_simp; with_reducible rfl)
          simp only [Act.put]
          clear hSx
          have hSx : w3a.cell? ⟨w2b.heap.size, j, none⟩ = some (.int .i64 (K : Int)) ∧ True := ⟨qa, trivial⟩
          refine d_takeY (v := ?_) 13 rfl (by kernel_rfl) (fun _ _ _ h => h) (Or.inl ⟨by rfl, ?_⟩) hSx ?_
          rotate_left
          · intro wx _
            first | (go_simp; done) | (go_simp; with_reducible rfl)
          simp only [Act.put]
          clear hSx
          refine d_step 15 (by kernel_rfl) rfl (fun K0 hK => ?_)
          go_simp
          refine hK.out _ _ (fun h => by exact absurd h (by decide)) ?_
          clear hK K0
          refine d_done (by kernel_rfl) ?_ _
          try simp only [Act.put, List.setIfInBounds_toArray, List.set_cons_zero, List.set_cons_succ]
          go_wp2_with fail
          go_meet
          refine ⟨u.heap.size, rfl, ?_, ?_, ⟨?_, ?_, ?_, ?_, ?_, ?_, ?_, ?_, ?_⟩, ⟨?_, ?_, ?_, ?_, ?_, ?_, ?_, ?_, ?_⟩, ?_⟩
          all_goals first | (simp [go_sem, q0, q1, q2, q3, q4, q5, q6, q7, q8, f0, f1, f2, f3, f4, f5, f6, f7, f8]; done) | (simp; omega) | (repeat (first | (with_reducible exact Below.refl _ _) | (with_reducible refine below_setCell ?_ (by first | (simp; done) | (simp; omega) | omega)) | (with_reducible refine below_alloc _ ?_) | (with_reducible refine below_drewN ?_ _) | (with_reducible refine below_drew_step ?_) | (with_reducible assumption) | (with_reducible refine below_after (by assumption) ?_)))
      · skip
        go_simp
        generalize hA : World.drew (World.alloc _ _) = w1b
        have m_w1b : Below u.heap.size u w1b := by rw [← hA]; (repeat (first | (with_reducible exact Below.refl _ _) | (with_reducible refine below_setCell ?_ (by first | (simp; done) | (simp; omega) | omega)) | (with_reducible refine below_alloc _ ?_) | (with_reducible refine below_drewN ?_ _) | (with_reducible refine below_drew_step ?_) | (with_reducible assumption) | (with_reducible refine below_after (by assumption) ?_)))
        have n_w1b : u.heap.size ≤ u.heap.size := by exact Nat.le_refl _
        have q0 : w1b.cell? ⟨u.heap.size, 0, none⟩ = some (.int .i64 0) := by rw [← hA]; simp [go_sem]
        have q1 : w1b.cell? ⟨u.heap.size, 1, none⟩ = some (.int .i64 0) := by rw [← hA]; simp [go_sem]
        have q2 : w1b.cell? ⟨u.heap.size, 2, none⟩ = some (.int .i64 0) := by rw [← hA]; simp [go_sem]
        have q3 : w1b.cell? ⟨u.heap.size, 3, none⟩ = some (.int .i64 0) := by rw [← hA]; simp [go_sem]
        have q4 : w1b.cell? ⟨u.heap.size, 4, none⟩ = some (.int .i64 0) := by rw [← hA]; simp [go_sem]
        have q5 : w1b.cell? ⟨u.heap.size, 5, none⟩ = some (.int .i64 0) := by rw [← hA]; simp [go_sem]
        have q6 : w1b.cell? ⟨u.heap.size, 6, none⟩ = some (.slice none 0 0) := by rw [← hA]; simp [go_sem]
        have q7 : w1b.cell? ⟨u.heap.size, 7, none⟩ = some (.slice none 0 0) := by rw [← hA]; simp [go_sem]
        have q8 : w1b.cell? ⟨u.heap.size, 8, none⟩ = some (.bool false) := by rw [← hA]; simp [go_sem]
        have f0 : w1b.frozen? ⟨u.heap.size, 0, none⟩ = false := by rw [← hA]; simp [go_sem]
        have f1 : w1b.frozen? ⟨u.heap.size, 1, none⟩ = false := by rw [← hA]; simp [go_sem]
        have f2 : w1b.frozen? ⟨u.heap.size, 2, none⟩ = false := by rw [← hA]; simp [go_sem]
        have f3 : w1b.frozen? ⟨u.heap.size, 3, none⟩ = false := by rw [← hA]; simp [go_sem]
        have f4 : w1b.frozen? ⟨u.heap.size, 4, none⟩ = false := by rw [← hA]; simp [go_sem]
        have f5 : w1b.frozen? ⟨u.heap.size, 5, none⟩ = false := by rw [← hA]; simp [go_sem]
        have f6 : w1b.frozen? ⟨u.heap.size, 6, none⟩ = false := by rw [← hA]; simp [go_sem]
        have f7 : w1b.frozen? ⟨u.heap.size, 7, none⟩ = false := by rw [← hA]; simp [go_sem]
        have f8 : w1b.frozen? ⟨u.heap.size, 8, none⟩ = false := by rw [← hA]; simp [go_sem]
        have hBW : u.heap.size < w1b.heap.size := by rw [← hA]; simp
        have hBu : u.heap.size ≤ u.heap.size := n_w1b
        clear hA
        refine hK.out _ _ (fun _ => trivial) ?_
        clear hK K0
        try simp only [Act.put, List.setIfInBounds_toArray, List.set_cons_zero, List.set_cons_succ]
        refine d_two 0 10 (by kernel_rfl) rfl rfl (fun K0 hK => ?_) (fun K0 hK => ?_)
        · skip
          go_simp
          generalize hA : World.alloc _ _ = w2a
          have m_w2a : Below u.heap.size u w2a := by rw [← hA]; (repeat (first | (with_reducible exact Below.refl _ _) | (with_reducible refine below_setCell ?_ (by first | (simp; done) | (simp; omega) | omega)) | (with_reducible refine below_alloc _ ?_) | (with_reducible refine below_drewN ?_ _) | (with_reducible refine below_drew_step ?_) | (with_reducible assumption) | (with_reducible refine below_after (by assumption) ?_)))
          have n_w2a : u.heap.size ≤ w1b.heap.size := by have := m_w1b.size; exact this
          replace q0 : w2a.cell? ⟨u.heap.size, 0, none⟩ = _ := cell_step (show Below w1b.heap.size w1b w2a from by rw [← hA]; (repeat (first | (with_reducible exact Below.refl _ _) | (with_reducible refine below_setCell ?_ (by first | (simp; done) | (simp; omega) | omega)) | (with_reducible refine below_alloc _ ?_) | (with_reducible refine below_drewN ?_ _) | (with_reducible refine below_drew_step ?_) | (with_reducible assumption) | (with_reducible refine below_after (by assumption) ?_)))) q0
          replace q1 : w2a.cell? ⟨u.heap.size, 1, none⟩ = _ := cell_step (show Below w1b.heap.size w1b w2a from by rw [← hA]; (repeat (first | (with_reducible exact Below.refl _ _) | (with_reducible refine below_setCell ?_ (by first | (simp; done) | (simp; omega) | omega)) | (with_reducible refine below_alloc _ ?_) | (with_reducible refine below_drewN ?_ _) | (with_reducible refine below_drew_step ?_) | (with_reducible assumption) | (with_reducible refine below_after (by assumption) ?_)))) q1
          replace q2 : w2a.cell? ⟨u.heap.size, 2, none⟩ = _ := cell_step (show Below w1b.heap.size w1b w2a from by rw [← hA]; (repeat (first | (with_reducible exact Below.refl _ _) | (with_reducible refine below_setCell ?_ (by first | (simp; done) | (simp; omega) | omega)) | (with_reducible refine below_alloc _ ?_) | (with_reducible refine below_drewN ?_ _) | (with_reducible refine below_drew_step ?_) | (with_reducible assumption) | (with_reducible refine below_after (by assumption) ?_)))) q2
          replace q3 : w2a.cell? ⟨u.heap.size, 3, none⟩ = _ := cell_step (show Below w1b.heap.size w1b w2a from by rw [← hA]; (repeat (first | (with_reducible exact Below.refl _ _) | (with_reducible refine below_setCell ?_ (by first | (simp; done) | (simp; omega) | omega)) | (with_reducible refine below_alloc _ ?_) | (with_reducible refine below_drewN ?_ _) | (with_reducible refine below_drew_step ?_) | (with_reducible assumption) | (with_reducible refine below_after (by assumption) ?_)))) q3
          replace q4 : w2a.cell? ⟨u.heap.size, 4, none⟩ = _ := cell_step (show Below w1b.heap.size w1b w2a from by rw [← hA]; (repeat (first | (with_reducible exact Below.refl _ _) | (with_reducible refine below_setCell ?_ (by first | (simp; done) | (simp; omega) | omega)) | (with_reducible refine below_alloc _ ?_) | (with_reducible refine below_drewN ?_ _) | (with_reducible refine below_drew_step ?_) | (with_reducible assumption) | (with_reducible refine below_after (by assumption) ?_)))) q4
          replace q5 : w2a.cell? ⟨u.heap.size, 5, none⟩ = _ := cell_step (show Below w1b.heap.size w1b w2a from by rw [← hA]; (repeat (first | (with_reducible exact Below.refl _ _) | (with_reducible refine below_setCell ?_ (by first | (simp; done) | (simp; omega) | omega)) | (with_reducible refine below_alloc _ ?_) | (with_reducible refine below_drewN ?_ _) | (with_reducible refine below_drew_step ?_) | (with_reducible assumption) | (with_reducible refine below_after (by assumption) ?_)))) q5
          replace q6 : w2a.cell? ⟨u.heap.size, 6, none⟩ = _ := cell_step (show Below w1b.heap.size w1b w2a from by rw [← hA]; (repeat (first | (with_reducible exact Below.refl _ _) | (with_reducible refine below_setCell ?_ (by first | (simp; done) | (simp; omega) | omega)) | (with_reducible refine below_alloc _ ?_) | (with_reducible refine below_drewN ?_ _) | (with_reducible refine below_drew_step ?_) | (with_reducible assumption) | (with_reducible refine below_after (by assumption) ?_)))) q6
          replace q7 : w2a.cell? ⟨u.heap.size, 7, none⟩ = _ := cell_step (show Below w1b.heap.size w1b w2a from by rw [← hA]; (repeat (first | (with_reducible exact Below.refl _ _) | (with_reducible refine below_setCell ?_ (by first | (simp; done) | (simp; omega) | omega)) | (with_reducible refine below_alloc _ ?_) | (with_reducible refine below_drewN ?_ _) | (with_reducible refine below_drew_step ?_) | (with_reducible assumption) | (with_reducible refine below_after (by assumption) ?_)))) q7
          replace q8 : w2a.cell? ⟨u.heap.size, 8, none⟩ = _ := cell_step (show Below w1b.heap.size w1b w2a from by rw [← hA]; (repeat (first | (with_reducible exact Below.refl _ _) | (with_reducible refine below_setCell ?_ (by first | (simp; done) | (simp; omega) | omega)) | (with_reducible refine below_alloc _ ?_) | (with_reducible refine below_drewN ?_ _) | (with_reducible refine below_drew_step ?_) | (with_reducible assumption) | (with_reducible refine below_after (by assumption) ?_)))) q8
          replace f0 : w2a.frozen? ⟨u.heap.size, 0, none⟩ = false := ((show Below w1b.heap.size w1b w2a from by rw [← hA]; (repeat (first | (with_reducible exact Below.refl _ _) | (with_reducible refine below_setCell ?_ (by first | (simp; done) | (simp; omega) | omega)) | (with_reducible refine below_alloc _ ?_) | (with_reducible refine below_drewN ?_ _) | (with_reducible refine below_drew_step ?_) | (with_reducible assumption) | (with_reducible refine below_after (by assumption) ?_)))).frozen (p := ⟨u.heap.size, 0, none⟩) hBW).trans f0
          replace f1 : w2a.frozen? ⟨u.heap.size, 1, none⟩ = false := ((show Below w1b.heap.size w1b w2a from by rw [← hA]; (repeat (first | (with_reducible exact Below.refl _ _) | (with_reducible refine below_setCell ?_ (by first | (simp; done) | (simp; omega) | omega)) | (with_reducible refine below_alloc _ ?_) | (with_reducible refine below_drewN ?_ _) | (with_reducible refine below_drew_step ?_) | (with_reducible assumption) | (with_reducible refine below_after (by assumption) ?_)))).frozen (p := ⟨u.heap.size, 1, none⟩) hBW).trans f1
          replace f2 : w2a.frozen? ⟨u.heap.size, 2, none⟩ = false := ((show Below w1b.heap.size w1b w2a from by rw [← hA]; (repeat (first | (with_reducible exact Below.refl _ _) | (with_reducible refine below_setCell ?_ (by first | (simp; done) | (simp; omega) | omega)) | (with_reducible refine below_alloc _ ?_) | (with_reducible refine below_drewN ?_ _) | (with_reducible refine below_drew_step ?_) | (with_reducible assumption) | (with_reducible refine below_after (by assumption) ?_)))).frozen (p := ⟨u.heap.size, 2, none⟩) hBW).trans f2
          replace f3 : w2a.frozen? ⟨u.heap.size, 3, none⟩ = false := ((show Below w1b.heap.size w1b w2a from by rw [← hA]; (repeat (first | (with_reducible exact Below.refl _ _) | (with_reducible refine below_setCell ?_ (by first | (simp; done) | (simp; omega) | omega)) | (with_reducible refine below_alloc _ ?_) | (with_reducible refine below_drewN ?_ _) | (with_reducible refine below_drew_step ?_) | (with_reducible assumption) | (with_reducible refine below_after (by assumption) ?_)))).frozen (p := ⟨u.heap.size, 3, none⟩) hBW).trans f3
          replace f4 : w2a.frozen? ⟨u.heap.size, 4, none⟩ = false := ((show Below w1b.heap.size w1b w2a from by rw [← hA]; (repeat (first | (with_reducible exact Below.refl _ _) | (with_reducible refine below_setCell ?_ (by first | (simp; done) | (simp; omega) | omega)) | (with_reducible refine below_alloc _ ?_) | (with_reducible refine below_drewN ?_ _) | (with_reducible refine below_drew_step ?_) | (with_reducible assumption) | (with_reducible refine below_after (by assumption) ?_)))).frozen (p := ⟨u.heap.size, 4, none⟩) hBW).trans f4
          replace f5 : w2a.frozen? ⟨u.heap.size, 5, none⟩ = false := ((show Below w1b.heap.size w1b w2a from by rw [← hA]; (repeat (first | (with_reducible exact Below.refl _ _) | (with_reducible refine below_setCell ?_ (by first | (simp; done) | (simp; omega) | omega)) | (with_reducible refine below_alloc _ ?_) | (with_reducible refine below_drewN ?_ _) | (with_reducible refine below_drew_step ?_) | (with_reducible assumption) | (with_reducible refine below_after (by assumption) ?_)))).frozen (p := ⟨u.heap.size, 5, none⟩) hBW).trans f5
          replace f6 : w2a.frozen? ⟨u.heap.size, 6, none⟩ = false := ((show Below w1b.heap.size w1b w2a from by rw [← hA]; (repeat (first | (with_reducible exact Below.refl _ _) | (with_reducible refine below_setCell ?_ (by first | (simp; done) | (simp; omega) | omega)) | (with_reducible refine below_alloc _ ?_) | (with_reducible refine below_drewN ?_ _) | (with_reducible refine below_drew_step ?_) | (with_reducible assumption) | (with_reducible refine below_after (by assumption) ?_)))).frozen (p := ⟨u.heap.size, 6, none⟩) hBW).trans f6
          replace f7 : w2a.frozen? ⟨u.heap.size, 7, none⟩ = false := ((show Below w1b.heap.size w1b w2a from by rw [← hA]; (repeat (first | (with_reducible exact Below.refl _ _) | (with_reducible refine below_setCell ?_ (by first | (simp; done) | (simp; omega) | omega)) | (with_reducible refine below_alloc _ ?_) | (with_reducible refine below_drewN ?_ _) | (with_reducible refine below_drew_step ?_) | (with_reducible assumption) | (with_reducible refine below_after (by assumption) ?_)))).frozen (p := ⟨u.heap.size, 7, none⟩) hBW).trans f7
          replace f8 : w2a.frozen? ⟨u.heap.size, 8, none⟩ = false := ((show Below w1b.heap.size w1b w2a from by rw [← hA]; (repeat (first | (with_reducible exact Below.refl _ _) | (with_reducible refine below_setCell ?_ (by first | (simp; done) | (simp; omega) | omega)) | (with_reducible refine below_alloc _ ?_) | (with_reducible refine below_drewN ?_ _) | (with_reducible refine below_drew_step ?_) | (with_reducible assumption) | (with_reducible refine below_after (by assumption) ?_)))).frozen (p := ⟨u.heap.size, 8, none⟩) hBW).trans f8
          replace hBW : u.heap.size < w2a.heap.size := Nat.lt_of_lt_of_le hBW (show Below w1b.heap.size w1b w2a from by rw [← hA]; (repeat (first | (with_reducible exact Below.refl _ _) | (with_reducible refine below_setCell ?_ (by first | (simp; done) | (simp; omega) | omega)) | (with_reducible refine below_alloc _ ?_) | (with_reducible refine below_drewN ?_ _) | (with_reducible refine below_drew_step ?_) | (with_reducible assumption) | (with_reducible refine below_after (by assumption) ?_)))).size
          have qa : w2a.cell? ⟨w1b.heap.size, j, none⟩ = some (.int .i64 (K : Int)) := by rw [← hA, HKj.out]; exact kind_cell _ _ j hj
          clear hA
          refine hK.out _ _ (fun _ => trivial) ?_
          clear hK K0
          try simp only [Act.put, List.setIfInBounds_toArray, List.set_cons_zero, List.set_cons_succ]
          refine d_more (S' := fun w' => w'.cell? ⟨w1b.heap.size, j, none⟩ = some (.int .i64 (K : Int)) ∧ True) (fun _ _ => trivial) _ _ _ _ ?_
          have hSx : w2a.cell? ⟨w1b.heap.size, j, none⟩ = some (.int .i64 (K : Int)) ∧ True := ⟨qa, trivial⟩
          refine d_takeY (v := ?_) 5 rfl (by kernel_rfl) (fun _ _ _ h => h) (Or.inl ⟨by rfl, ?_⟩) hSx ?_
          rotate_left
          · intro wx _
            first | (go_simp; done) | (go_simp; with_reducible rfl)
          simp only [Act.put, List.setIfInBounds_toArray]
          refine d_take (f := 30) (v := ?_) 6 rfl (by kernel_rfl) (fun _ _ _ h => h) (Or.inl ⟨by rfl, ?_⟩) hSx ?_
          rotate_left
          · intro wx hx
            obtain ⟨x0, x1⟩ := hx
            first | (go_simp; done) | (go_simp; with_reducible rfl)
          simp only [Act.put]
          clear hSx
          refine d_step 10 (by kernel_rfl) rfl (fun K0 hK => ?_)
          go_simp
          go_at_call 7
          refine (H1.out _ (show Below w.heap.size w w2a from by (repeat (first | (with_reducible exact Below.refl _ _) | (with_reducible refine below_setCell ?_ (by first | (simp; done) | (simp; omega) | omega)) | (with_reducible refine below_alloc _ ?_) | (with_reducible refine below_drewN ?_ _) | (with_reducible refine below_drew_step ?_) | (with_reducible assumption) | (with_reducible refine below_after (by assumption) ?_))))).mono ?_
          rintro e wv ⟨rfl, rfl⟩
          refine hK.out _ _ (fun _ => ⟨qa, trivial⟩) ?_
          clear hK K0
          try simp only [Act.put, List.setIfInBounds_toArray, List.set_cons_zero, List.set_cons_succ]
          have hT : True := trivial
          have hSx : w2a.cell? ⟨w1b.heap.size, j, none⟩ = some (.int .i64 (K : Int)) ∧ True := ⟨qa, trivial⟩
          refine d_takeY (v := ?_) 12 rfl (by kernel_rfl) (fun _ _ _ h => h) (Or.inl ⟨by rfl, ?_⟩) hSx ?_
          rotate_left
          · intro wx _
            first | (go_simp; done) | (go_simp; with_reducible rfl)
          simp only [Act.put, List.setIfInBounds_toArray]
          clear hSx
          have hSx : w2a.cell? ⟨w1b.heap.size, j, none⟩ = some (.int .i64 (K : Int)) ∧ True := ⟨qa, trivial⟩
          refine d_takeY (v := ?_) 13 rfl (by kernel_rfl) (fun _ _ _ h => h) (Or.inl ⟨by rfl, ?_⟩) hSx ?_
          rotate_left
          · intro wx _
            first | (go_simp; done) | (go_simp; with_reducible rfl)
          simp only [Act.put]
          clear hSx
          refine d_step 15 (by kernel_rfl) rfl (fun K0 hK => ?_)
          go_simp
          refine hK.out _ _ (fun h => by exact absurd h (by decide)) ?_
          clear hK K0
          refine d_done (by kernel_rfl) ?_ _
          try simp only [Act.put, List.setIfInBounds_toArray, List.set_cons_zero, List.set_cons_succ]
          go_wp2_with fail
          go_meet
          refine ⟨u.heap.size, rfl, ?_, ?_, ⟨?_, ?_, ?_, ?_, ?_, ?_, ?_, ?_, ?_⟩, ⟨?_, ?_, ?_, ?_, ?_, ?_, ?_, ?_, ?_⟩, ?_⟩
          all_goals first | (simp [go_sem, q0, q1, q2, q3, q4, q5, q6, q7, q8, f0, f1, f2, f3, f4, f5, f6, f7, f8]; done) | (simp; omega) | (repeat (first | (with_reducible exact Below.refl _ _) | (with_reducible refine below_setCell ?_ (by first | (simp; done) | (simp; omega) | omega)) | (with_reducible refine below_alloc _ ?_) | (with_reducible refine below_drewN ?_ _) | (with_reducible refine below_drew_step ?_) | (with_reducible assumption) | (with_reducible refine below_after (by assumption) ?_)))
        · skip
          go_simp
          go_at_call 7
          refine (H1.out _ (show Below w.heap.size w w1b from by (repeat (first | (with_reducible exact Below.refl _ _) | (with_reducible refine below_setCell ?_ (by first | (simp; done) | (simp; omega) | omega)) | (with_reducible refine below_alloc _ ?_) | (with_reducible refine below_drewN ?_ _) | (with_reducible refine below_drew_step ?_) | (with_reducible assumption) | (with_reducible refine below_after (by assumption) ?_))))).mono ?_
          rintro e wv ⟨rfl, rfl⟩
          refine hK.out _ _ (fun _ => trivial) ?_
          clear hK K0
          try simp only [Act.put, List.setIfInBounds_toArray, List.set_cons_zero, List.set_cons_succ]
          have hT : True := trivial
          refine d_takeY (v := ?_) 12 rfl (by kernel_rfl) (fun _ _ _ h => h) (Or.inl ⟨by rfl, ?_⟩) hT ?_
          rotate_left
          · intro wx _
            first | (go_simp; done) | (go_simp; with_reducible rfl)
          simp only [Act.put, List.setIfInBounds_toArray]
          refine d_step 0 (by kernel_rfl) rfl (fun K0 hK => ?_)
          go_simp
          generalize hA : World.alloc _ _ = w3a
          have m_w3a : Below u.heap.size u w3a := by rw [← hA]; (repeat (first | (with_reducible exact Below.refl _ _) | (with_reducible refine below_setCell ?_ (by first | (simp; done) | (simp; omega) | omega)) | (with_reducible refine below_alloc _ ?_) | (with_reducible refine below_drewN ?_ _) | (with_reducible refine below_drew_step ?_) | (with_reducible assumption) | (with_reducible refine below_after (by assumption) ?_)))
          have n_w3a : u.heap.size ≤ w1b.heap.size := by have := m_w1b.size; exact this
          replace q0 : w3a.cell? ⟨u.heap.size, 0, none⟩ = _ := cell_step (show Below w1b.heap.size w1b w3a from by rw [← hA]; (repeat (first | (with_reducible exact Below.refl _ _) | (with_reducible refine below_setCell ?_ (by first | (simp; done) | (simp; omega) | omega)) | (with_reducible refine below_alloc _ ?_) | (with_reducible refine below_drewN ?_ _) | (with_reducible refine below_drew_step ?_) | (with_reducible assumption) | (with_reducible refine below_after (by assumption) ?_)))) q0
          replace q1 : w3a.cell? ⟨u.heap.size, 1, none⟩ = _ := cell_step (show Below w1b.heap.size w1b w3a from by rw [← hA]; (repeat (first | (with_reducible exact Below.refl _ _) | (with_reducible refine below_setCell ?_ (by first | (simp; done) | (simp; omega) | omega)) | (with_reducible refine below_alloc _ ?_) | (with_reducible refine below_drewN ?_ _) | (with_reducible refine below_drew_step ?_) | (with_reducible assumption) | (with_reducible refine below_after (by assumption) ?_)))) q1
          replace q2 : w3a.cell? ⟨u.heap.size, 2, none⟩ = _ := cell_step (show Below w1b.heap.size w1b w3a from by rw [← hA]; (repeat (first | (with_reducible exact Below.refl _ _) | (with_reducible refine below_setCell ?_ (by first | (simp; done) | (simp; omega) | omega)) | (with_reducible refine below_alloc _ ?_) | (with_reducible refine below_drewN ?_ _) | (with_reducible refine below_drew_step ?_) | (with_reducible assumption) | (with_reducible refine below_after (by assumption) ?_)))) q2
          replace q3 : w3a.cell? ⟨u.heap.size, 3, none⟩ = _ := cell_step (show Below w1b.heap.size w1b w3a from by rw [← hA]; (repeat (first | (with_reducible exact Below.refl _ _) | (with_reducible refine below_setCell ?_ (by first | (simp; done) | (simp; omega) | omega)) | (with_reducible refine below_alloc _ ?_) | (with_reducible refine below_drewN ?_ _) | (with_reducible refine below_drew_step ?_) | (with_reducible assumption) | (with_reducible refine below_after (by assumption) ?_)))) q3
          replace q4 : w3a.cell? ⟨u.heap.size, 4, none⟩ = _ := cell_step (show Below w1b.heap.size w1b w3a from by rw [← hA]; (repeat (first | (with_reducible exact Below.refl _ _) | (with_reducible refine below_setCell ?_ (by first | (simp; done) | (simp; omega) | omega)) | (with_reducible refine below_alloc _ ?_) | (with_reducible refine below_drewN ?_ _) | (with_reducible refine below_drew_step ?_) | (with_reducible assumption) | (with_reducible refine below_after (by assumption) ?_)))) q4
          replace q5 : w3a.cell? ⟨u.heap.size, 5, none⟩ = _ := cell_step (show Below w1b.heap.size w1b w3a from by rw [← hA]; (repeat (first | (with_reducible exact Below.refl _ _) | (with_reducible refine below_setCell ?_ (by first | (simp; done) | (simp; omega) | omega)) | (with_reducible refine below_alloc _ ?_) | (with_reducible refine below_drewN ?_ _) | (with_reducible refine below_drew_step ?_) | (with_reducible assumption) | (with_reducible refine below_after (by assumption) ?_)))) q5
          replace q6 : w3a.cell? ⟨u.heap.size, 6, none⟩ = _ := cell_step (show Below w1b.heap.size w1b w3a from by rw [← hA]; (repeat (first | (with_reducible exact Below.refl _ _) | (with_reducible refine below_setCell ?_ (by first | (simp; done) | (simp; omega) | omega)) | (with_reducible refine below_alloc _ ?_) | (with_reducible refine below_drewN ?_ _) | (with_reducible refine below_drew_step ?_) | (with_reducible assumption) | (with_reducible refine below_after (by assumption) ?_)))) q6
          replace q7 : w3a.cell? ⟨u.heap.size, 7, none⟩ = _ := cell_step (show Below w1b.heap.size w1b w3a from by rw [← hA]; (repeat (first | (with_reducible exact Below.refl _ _) | (with_reducible refine below_setCell ?_ (by first | (simp; done) | (simp; omega) | omega)) | (with_reducible refine below_alloc _ ?_) | (with_reducible refine below_drewN ?_ _) | (with_reducible refine below_drew_step ?_) | (with_reducible assumption) | (with_reducible refine below_after (by assumption) ?_)))) q7
          replace q8 : w3a.cell? ⟨u.heap.size, 8, none⟩ = _ := cell_step (show Below w1b.heap.size w1b w3a from by rw [← hA]; (repeat (first | (with_reducible exact Below.refl _ _) | (with_reducible refine below_setCell ?_ (by first | (simp; done) | (simp; omega) | omega)) | (with_reducible refine below_alloc _ ?_) | (with_reducible refine below_drewN ?_ _) | (with_reducible refine below_drew_step ?_) | (with_reducible assumption) | (with_reducible refine below_after (by assumption) ?_)))) q8
          replace f0 : w3a.frozen? ⟨u.heap.size, 0, none⟩ = false := ((show Below w1b.heap.size w1b w3a from by rw [← hA]; (repeat (first | (with_reducible exact Below.refl _ _) | (with_reducible refine below_setCell ?_ (by first | (simp; done) | (simp; omega) | omega)) | (with_reducible refine below_alloc _ ?_) | (with_reducible refine below_drewN ?_ _) | (with_reducible refine below_drew_step ?_) | (with_reducible assumption) | (with_reducible refine below_after (by assumption) ?_)))).frozen (p := ⟨u.heap.size, 0, none⟩) hBW).trans f0
          replace f1 : w3a.frozen? ⟨u.heap.size, 1, none⟩ = false := ((show Below w1b.heap.size w1b w3a from by rw [← hA]; (repeat (first | (with_reducible exact Below.refl _ _) | (with_reducible refine below_setCell ?_ (by first | (simp; done) | (simp; omega) | omega)) | (with_reducible refine below_alloc _ ?_) | (with_reducible refine below_drewN ?_ _) | (with_reducible refine below_drew_step ?_) | (with_reducible assumption) | (with_reducible refine below_after (by assumption) ?_)))).frozen (p := ⟨u.heap.size, 1, none⟩) hBW).trans f1
          replace f2 : w3a.frozen? ⟨u.heap.size, 2, none⟩ = false := ((show Below w1b.heap.size w1b w3a from by rw [← hA]; (repeat (first | (with_reducible exact Below.refl _ _) | (with_reducible refine below_setCell ?_ (by first | (simp; done) | (simp; omega) | omega)) | (with_reducible refine below_alloc _ ?_) | (with_reducible refine below_drewN ?_ _) | (with_reducible refine below_drew_step ?_) | (with_reducible assumption) | (with_reducible refine below_after (by assumption) ?_)))).frozen (p := ⟨u.heap.size, 2, none⟩) hBW).trans f2
          replace f3 : w3a.frozen? ⟨u.heap.size, 3, none⟩ = false := ((show Below w1b.heap.size w1b w3a from by rw [← hA]; (repeat (first | (with_reducible exact Below.refl _ _) | (with_reducible refine below_setCell ?_ (by first | (simp; done) | (simp; omega) | omega)) | (with_reducible refine below_alloc _ ?_) | (with_reducible refine below_drewN ?_ _) | (with_reducible refine below_drew_step ?_) | (with_reducible assumption) | (with_reducible refine below_after (by assumption) ?_)))).frozen (p := ⟨u.heap.size, 3, none⟩) hBW).trans f3
          replace f4 : w3a.frozen? ⟨u.heap.size, 4, none⟩ = false := ((show Below w1b.heap.size w1b w3a from by rw [← hA]; (repeat (first | (with_reducible exact Below.refl _ _) | (with_reducible refine below_setCell ?_ (by first | (simp; done) | (simp; omega) | omega)) | (with_reducible refine below_alloc _ ?_) | (with_reducible refine below_drewN ?_ _) | (with_reducible refine below_drew_step ?_) | (with_reducible assumption) | (with_reducible refine below_after (by assumption) ?_)))).frozen (p := ⟨u.heap.size, 4, none⟩) hBW).trans f4
          replace f5 : w3a.frozen? ⟨u.heap.size, 5, none⟩ = false := ((show Below w1b.heap.size w1b w3a from by rw [← hA]; (repeat (first | (with_reducible exact Below.refl _ _) | (with_reducible refine below_setCell ?_ (by first | (simp; done) | (simp; omega) | omega)) | (with_reducible refine below_alloc _ ?_) | (with_reducible refine below_drewN ?_ _) | (with_reducible refine below_drew_step ?_) | (with_reducible assumption) | (with_reducible refine below_after (by assumption) ?_)))).frozen (p := ⟨u.heap.size, 5, none⟩) hBW).trans f5
          replace f6 : w3a.frozen? ⟨u.heap.size, 6, none⟩ = false := ((show Below w1b.heap.size w1b w3a from by rw [← hA]; (repeat (first | (with_reducible exact Below.refl _ _) | (with_reducible refine below_setCell ?_ (by first | (simp; done) | (simp; omega) | omega)) | (with_reducible refine below_alloc _ ?_) | (with_reducible refine below_drewN ?_ _) | (with_reducible refine below_drew_step ?_) | (with_reducible assumption) | (with_reducible refine below_after (by assumption) ?_)))).frozen (p := ⟨u.heap.size, 6, none⟩) hBW).trans f6
          replace f7 : w3a.frozen? ⟨u.heap.size, 7, none⟩ = false := ((show Below w1b.heap.size w1b w3a from by rw [← hA]; (repeat (first | (with_reducible exact Below.refl _ _) | (with_reducible refine below_setCell ?_ (by first | (simp; done) | (simp; omega) | omega)) | (with_reducible refine below_alloc _ ?_) | (with_reducible refine below_drewN ?_ _) | (with_reducible refine below_drew_step ?_) | (with_reducible assumption) | (with_reducible refine below_after (by assumption) ?_)))).frozen (p := ⟨u.heap.size, 7, none⟩) hBW).trans f7
          replace f8 : w3a.frozen? ⟨u.heap.size, 8, none⟩ = false := ((show Below w1b.heap.size w1b w3a from by rw [← hA]; (repeat (first | (with_reducible exact Below.refl _ _) | (with_reducible refine below_setCell ?_ (by first | (simp; done) | (simp; omega) | omega)) | (with_reducible refine below_alloc _ ?_) | (with_reducible refine below_drewN ?_ _) | (with_reducible refine below_drew_step ?_) | (with_reducible assumption) | (with_reducible refine below_after (by assumption) ?_)))).frozen (p := ⟨u.heap.size, 8, none⟩) hBW).trans f8
          replace hBW : u.heap.size < w3a.heap.size := Nat.lt_of_lt_of_le hBW (show Below w1b.heap.size w1b w3a from by rw [← hA]; (repeat (first | (with_reducible exact Below.refl _ _) | (with_reducible refine below_setCell ?_ (by first | (simp; done) | (simp; omega) | omega)) | (with_reducible refine below_alloc _ ?_) | (with_reducible refine below_drewN ?_ _) | (with_reducible refine below_drew_step ?_) | (with_reducible assumption) | (with_reducible refine below_after (by assumption) ?_)))).size
          have qa : w3a.cell? ⟨w1b.heap.size, j, none⟩ = some (.int .i64 (K : Int)) := by rw [← hA, HKj.out]; exact kind_cell _ _ j hj
          clear hA
          refine hK.out _ _ (fun _ => trivial) ?_
          clear hK K0
          try simp only [Act.put, List.setIfInBounds_toArray, List.set_cons_zero, List.set_cons_succ]
          refine d_more (S' := fun w' => w'.cell? ⟨w1b.heap.size, j, none⟩ = some (.int .i64 (K : Int)) ∧ True) (fun _ _ => trivial) _ _ _ _ ?_
          have hSx : w3a.cell? ⟨w1b.heap.size, j, none⟩ = some (.int .i64 (K : Int)) ∧ True := ⟨qa, trivial⟩
          refine d_takeY (v := ?_) 5 rfl (by kernel_rfl) (fun _ _ _ h => h) (Or.inl ⟨by rfl, ?_⟩) hSx ?_
          rotate_left
          · intro wx _
            first | (go_simp; done) | (go_simp; with_reducible rfl)
          simp only [Act.put, List.setIfInBounds_toArray]
          refine d_take (f := 30) (v := ?_) 6 rfl (by kernel_rfl) (fun _ _ _ h => h) (Or.inl ⟨by rfl, ?_⟩) hSx ?_
          rotate_left
          · intro wx hx
            obtain ⟨x0, x1⟩ := hx
            first | (go_simp; done) | (go_simp; with_reducible rfl)
          simp only [Act.put]
          clear hSx
          have hSx : w3a.cell? ⟨w1b.heap.size, j, none⟩ = some (.int .i64 (K : Int)) ∧ True := ⟨qa, trivial⟩
          refine d_takeY (v := ?_) 13 rfl (by kernel_rfl) (fun _ _ _ h => h) (Or.inl ⟨by rfl, ?_⟩) hSx ?_
          rotate_left
          · intro wx _
            first | (go_simp; done) | (go_simp; with_reducible rfl)
          simp only [Act.put]
          clear hSx
          refine d_step 15 (by kernel_rfl) rfl (fun K0 hK => ?_)
          go_simp
          refine hK.out _ _ (fun h => by exact absurd h (by decide)) ?_
          clear hK K0
          refine d_done (by kernel_rfl) ?_ _
          try simp only [Act.put, List.setIfInBounds_toArray, List.set_cons_zero, List.set_cons_succ]
          go_wp2_with fail
          go_meet
          refine ⟨u.heap.size, rfl, ?_, ?_, ⟨?_, ?_, ?_, ?_, ?_, ?_, ?_, ?_, ?_⟩, ⟨?_, ?_, ?_, ?_, ?_, ?_, ?_, ?_, ?_⟩, ?_⟩
          all_goals first | (simp [go_sem, q0, q1, q2, q3, q4, q5, q6, q7, q8, f0, f1, f2, f3, f4, f5, f6, f7, f8]; done) | (simp; omega) | (repeat (first | (with_reducible exact Below.refl _ _) | (with_reducible refine below_setCell ?_ (by first | (simp; done) | (simp; omega) | omega)) | (with_reducible refine below_alloc _ ?_) | (with_reducible refine below_drewN ?_ _) | (with_reducible refine below_drew_step ?_) | (with_reducible assumption) | (with_reducible refine below_after (by assumption) ?_)))
    · skip
      go_simp
      generalize hA : World.drew (World.alloc _ _) = w0b
      have m_w0b : Below u.heap.size u w0b := by rw [← hA]; (repeat (first | (with_reducible exact Below.refl _ _) | (with_reducible refine below_setCell ?_ (by first | (simp; done) | (simp; omega) | omega)) | (with_reducible refine below_alloc _ ?_) | (with_reducible refine below_drewN ?_ _) | (with_reducible refine below_drew_step ?_) | (with_reducible assumption) | (with_reducible refine below_after (by assumption) ?_)))
      have n_w0b : u.heap.size ≤ u.heap.size := by exact Nat.le_refl _
      have q0 : w0b.cell? ⟨u.heap.size, 0, none⟩ = some (.int .i64 0) := by rw [← hA]; simp [go_sem]
      have q1 : w0b.cell? ⟨u.heap.size, 1, none⟩ = some (.int .i64 0) := by rw [← hA]; simp [go_sem]
      have q2 : w0b.cell? ⟨u.heap.size, 2, none⟩ = some (.int .i64 0) := by rw [← hA]; simp [go_sem]
      have q3 : w0b.cell? ⟨u.heap.size, 3, none⟩ = some (.int .i64 0) := by rw [← hA]; simp [go_sem]
      have q4 : w0b.cell? ⟨u.heap.size, 4, none⟩ = some (.int .i64 0) := by rw [← hA]; simp [go_sem]
      have q5 : w0b.cell? ⟨u.heap.size, 5, none⟩ = some (.int .i64 0) := by rw [← hA]; simp [go_sem]
      have q6 : w0b.cell? ⟨u.heap.size, 6, none⟩ = some (.slice none 0 0) := by rw [← hA]; simp [go_sem]
      have q7 : w0b.cell? ⟨u.heap.size, 7, none⟩ = some (.slice none 0 0) := by rw [← hA]; simp [go_sem]
      have q8 : w0b.cell? ⟨u.heap.size, 8, none⟩ = some (.bool false) := by rw [← hA]; simp [go_sem]
      have f0 : w0b.frozen? ⟨u.heap.size, 0, none⟩ = false := by rw [← hA]; simp [go_sem]
      have f1 : w0b.frozen? ⟨u.heap.size, 1, none⟩ = false := by rw [← hA]; simp [go_sem]
      have f2 : w0b.frozen? ⟨u.heap.size, 2, none⟩ = false := by rw [← hA]; simp [go_sem]
      have f3 : w0b.frozen? ⟨u.heap.size, 3, none⟩ = false := by rw [← hA]; simp [go_sem]
      have f4 : w0b.frozen? ⟨u.heap.size, 4, none⟩ = false := by rw [← hA]; simp [go_sem]
      have f5 : w0b.frozen? ⟨u.heap.size, 5, none⟩ = false := by rw [← hA]; simp [go_sem]
      have f6 : w0b.frozen? ⟨u.heap.size, 6, none⟩ = false := by rw [← hA]; simp [go_sem]
      have f7 : w0b.frozen? ⟨u.heap.size, 7, none⟩ = false := by rw [← hA]; simp [go_sem]
      have f8 : w0b.frozen? ⟨u.heap.size, 8, none⟩ = false := by rw [← hA]; simp [go_sem]
      have hBW : u.heap.size < w0b.heap.size := by rw [← hA]; simp
      have hBu : u.heap.size ≤ u.heap.size := n_w0b
      clear hA
      refine hK.out _ _ (fun _ => trivial) ?_
      clear hK K0
      try simp only [Act.put, List.setIfInBounds_toArray, List.set_cons_zero, List.set_cons_succ]
      refine d_two 0 3 (by kernel_rfl) rfl rfl (fun K0 hK => ?_) (fun K0 hK => ?_)
      · skip
        go_simp
        generalize hA : World.alloc _ _ = w1a
        have m_w1a : Below u.heap.size u w1a := by rw [← hA]; (repeat (first | (with_reducible exact Below.refl _ _) | (with_reducible refine below_setCell ?_ (by first | (simp; done) | (simp; omega) | omega)) | (with_reducible refine below_alloc _ ?_) | (with_reducible refine below_drewN ?_ _) | (with_reducible refine below_drew_step ?_) | (with_reducible assumption) | (with_reducible refine below_after (by assumption) ?_)))
        have n_w1a : u.heap.size ≤ w0b.heap.size := by have := m_w0b.size; exact this
        replace q0 : w1a.cell? ⟨u.heap.size, 0, none⟩ = _ := cell_step (show Below w0b.heap.size w0b w1a from by rw [← hA]; (repeat (first | (with_reducible exact Below.refl _ _) | (with_reducible refine below_setCell ?_ (by first | (simp; done) | (simp; omega) | omega)) | (with_reducible refine below_alloc _ ?_) | (with_reducible refine below_drewN ?_ _) | (with_reducible refine below_drew_step ?_) | (with_reducible assumption) | (with_reducible refine below_after (by assumption) ?_)))) q0
        replace q1 : w1a.cell? ⟨u.heap.size, 1, none⟩ = _ := cell_step (show Below w0b.heap.size w0b w1a from by rw [← hA]; (repeat (first | (with_reducible exact Below.refl _ _) | (with_reducible refine below_setCell ?_ (by first | (simp; done) | (simp; omega) | omega)) | (with_reducible refine below_alloc _ ?_) | (with_reducible refine below_drewN ?_ _) | (with_reducible refine below_drew_step ?_) | (with_reducible assumption) | (with_reducible refine below_after (by assumption) ?_)))) q1
        replace q2 : w1a.cell? ⟨u.heap.size, 2, none⟩ = _ := cell_step (show Below w0b.heap.size w0b w1a from by rw [← hA]; (repeat (first | (with_reducible exact Below.refl _ _) | (with_reducible refine below_setCell ?_ (by first | (simp; done) | (simp; omega) | omega)) | (with_reducible refine below_alloc _ ?_) | (with_reducible refine below_drewN ?_ _) | (with_reducible refine below_drew_step ?_) | (with_reducible assumption) | (with_reducible refine below_after (by assumption) ?_)))) q2
        replace q3 : w1a.cell? ⟨u.heap.size, 3, none⟩ = _ := cell_step (show Below w0b.heap.size w0b w1a from by rw [← hA]; (repeat (first | (with_reducible exact Below.refl _ _) | (with_reducible refine below_setCell ?_ (by first | (simp; done) | (simp; omega) | omega)) | (with_reducible refine below_alloc _ ?_) | (with_reducible refine below_drewN ?_ _) | (with_reducible refine below_drew_step ?_) | (with_reducible assumption) | (with_reducible refine below_after (by assumption) ?_)))) q3
        replace q4 : w1a.cell? ⟨u.heap.size, 4, none⟩ = _ := cell_step (show Below w0b.heap.size w0b w1a from by rw [← hA]; (repeat (first | (with_reducible exact Below.refl _ _) | (with_reducible refine below_setCell ?_ (by first | (simp; done) | (simp; omega) | omega)) | (with_reducible refine below_alloc _ ?_) | (with_reducible refine below_drewN ?_ _) | (with_reducible refine below_drew_step ?_) | (with_reducible assumption) | (with_reducible refine below_after (by assumption) ?_)))) q4
        replace q5 : w1a.cell? ⟨u.heap.size, 5, none⟩ = _ := cell_step (show Below w0b.heap.size w0b w1a from by rw [← hA]; (repeat (first | (with_reducible exact Below.refl _ _) | (with_reducible refine below_setCell ?_ (by first | (simp; done) | (simp; omega) | omega)) | (with_reducible refine below_alloc _ ?_) | (with_reducible refine below_drewN ?_ _) | (with_reducible refine below_drew_step ?_) | (with_reducible assumption) | (with_reducible refine below_after (by assumption) ?_)))) q5
        replace q6 : w1a.cell? ⟨u.heap.size, 6, none⟩ = _ := cell_step (show Below w0b.heap.size w0b w1a from by rw [← hA]; (repeat (first | (with_reducible exact Below.refl _ _) | (with_reducible refine below_setCell ?_ (by first | (simp; done) | (simp; omega) | omega)) | (with_reducible refine below_alloc _ ?_) | (with_reducible refine below_drewN ?_ _) | (with_reducible refine below_drew_step ?_) | (with_reducible assumption) | (with_reducible refine below_after (by assumption) ?_)))) q6
        replace q7 : w1a.cell? ⟨u.heap.size, 7, none⟩ = _ := cell_step (show Below w0b.heap.size w0b w1a from by rw [← hA]; (repeat (first | (with_reducible exact Below.refl _ _) | (with_reducible refine below_setCell ?_ (by first | (simp; done) | (simp; omega) | omega)) | (with_reducible refine below_alloc _ ?_) | (with_reducible refine below_drewN ?_ _) | (with_reducible refine below_drew_step ?_) | (with_reducible assumption) | (with_reducible refine below_after (by assumption) ?_)))) q7
        replace q8 : w1a.cell? ⟨u.heap.size, 8, none⟩ = _ := cell_step (show Below w0b.heap.size w0b w1a from by rw [← hA]; (repeat (first | (with_reducible exact Below.refl _ _) | (with_reducible refine below_setCell ?_ (by first | (simp; done) | (simp; omega) | omega)) | (with_reducible refine below_alloc _ ?_) | (with_reducible refine below_drewN ?_ _) | (with_reducible refine below_drew_step ?_) | (with_reducible assumption) | (with_reducible refine below_after (by assumption) ?_)))) q8
        replace f0 : w1a.frozen? ⟨u.heap.size, 0, none⟩ = false := ((show Below w0b.heap.size w0b w1a from by rw [← hA]; (repeat (first | (with_reducible exact Below.refl _ _) | (with_reducible refine below_setCell ?_ (by first | (simp; done) | (simp; omega) | omega)) | (with_reducible refine below_alloc _ ?_) | (with_reducible refine below_drewN ?_ _) | (with_reducible refine below_drew_step ?_) | (with_reducible assumption) | (with_reducible refine below_after (by assumption) ?_)))).frozen (p := ⟨u.heap.size, 0, none⟩) hBW).trans f0
        replace f1 : w1a.frozen? ⟨u.heap.size, 1, none⟩ = false := ((show Below w0b.heap.size w0b w1a from by rw [← hA]; (repeat (first | (with_reducible exact Below.refl _ _) | (with_reducible refine below_setCell ?_ (by first | (simp; done) | (simp; omega) | omega)) | (with_reducible refine below_alloc _ ?_) | (with_reducible refine below_drewN ?_ _) | (with_reducible refine below_drew_step ?_) | (with_reducible assumption) | (with_reducible refine below_after (by assumption) ?_)))).frozen (p := ⟨u.heap.size, 1, none⟩) hBW).trans f1
        replace f2 : w1a.frozen? ⟨u.heap.size, 2, none⟩ = false := ((show Below w0b.heap.size w0b w1a from by rw [← hA]; (repeat (first | (with_reducible exact Below.refl _ _) | (with_reducible refine below_setCell ?_ (by first | (simp; done) | (simp; omega) | omega)) | (with_reducible refine below_alloc _ ?_) | (with_reducible refine below_drewN ?_ _) | (with_reducible refine below_drew_step ?_) | (with_reducible assumption) | (with_reducible refine below_after (by assumption) ?_)))).frozen (p := ⟨u.heap.size, 2, none⟩) hBW).trans f2
        replace f3 : w1a.frozen? ⟨u.heap.size, 3, none⟩ = false := ((show Below w0b.heap.size w0b w1a from by rw [← hA]; (repeat (first | (with_reducible exact Below.refl _ _) | (with_reducible refine below_setCell ?_ (by first | (simp; done) | (simp; omega) | omega)) | (with_reducible refine below_alloc _ ?_) | (with_reducible refine below_drewN ?_ _) | (with_reducible refine below_drew_step ?_) | (with_reducible assumption) | (with_reducible refine below_after (by assumption) ?_)))).frozen (p := ⟨u.heap.size, 3, none⟩) hBW).trans f3
        replace f4 : w1a.frozen? ⟨u.heap.size, 4, none⟩ = false := ((show Below w0b.heap.size w0b w1a from by rw [← hA]; (repeat (first | (with_reducible exact Below.refl _ _) | (with_reducible refine below_setCell ?_ (by first | (simp; done) | (simp; omega) | omega)) | (with_reducible refine below_alloc _ ?_) | (with_reducible refine below_drewN ?_ _) | (with_reducible refine below_drew_step ?_) | (with_reducible assumption) | (with_reducible refine below_after (by assumption) ?_)))).frozen (p := ⟨u.heap.size, 4, none⟩) hBW).trans f4
        replace f5 : w1a.frozen? ⟨u.heap.size, 5, none⟩ = false := ((show Below w0b.heap.size w0b w1a from by rw [← hA]; (repeat (first | (with_reducible exact Below.refl _ _) | (with_reducible refine below_setCell ?_ (by first | (simp; done) | (simp; omega) | omega)) | (with_reducible refine below_alloc _ ?_) | (with_reducible refine below_drewN ?_ _) | (with_reducible refine below_drew_step ?_) | (with_reducible assumption) | (with_reducible refine below_after (by assumption) ?_)))).frozen (p := ⟨u.heap.size, 5, none⟩) hBW).trans f5
        replace f6 : w1a.frozen? ⟨u.heap.size, 6, none⟩ = false := ((show Below w0b.heap.size w0b w1a from by rw [← hA]; (repeat (first | (with_reducible exact Below.refl _ _) | (with_reducible refine below_setCell ?_ (by first | (simp; done) | (simp; omega) | omega)) | (with_reducible refine below_alloc _ ?_) | (with_reducible refine below_drewN ?_ _) | (with_reducible refine below_drew_step ?_) | (with_reducible assumption) | (with_reducible refine below_after (by assumption) ?_)))).frozen (p := ⟨u.heap.size, 6, none⟩) hBW).trans f6
        replace f7 : w1a.frozen? ⟨u.heap.size, 7, none⟩ = false := ((show Below w0b.heap.size w0b w1a from by rw [← hA]; (repeat (first | (with_reducible exact Below.refl _ _) | (with_reducible refine below_setCell ?_ (by first | (simp; done) | (simp; omega) | omega)) | (with_reducible refine below_alloc _ ?_) | (with_reducible refine below_drewN ?_ _) | (with_reducible refine below_drew_step ?_) | (with_reducible assumption) | (with_reducible refine below_after (by assumption) ?_)))).frozen (p := ⟨u.heap.size, 7, none⟩) hBW).trans f7
        replace f8 : w1a.frozen? ⟨u.heap.size, 8, none⟩ = false := ((show Below w0b.heap.size w0b w1a from by rw [← hA]; (repeat (first | (with_reducible exact Below.refl _ _) | (with_reducible refine below_setCell ?_ (by first | (simp; done) | (simp; omega) | omega)) | (with_reducible refine below_alloc _ ?_) | (with_reducible refine below_drewN ?_ _) | (with_reducible refine below_drew_step ?_) | (with_reducible assumption) | (with_reducible refine below_after (by assumption) ?_)))).frozen (p := ⟨u.heap.size, 8, none⟩) hBW).trans f8
        replace hBW : u.heap.size < w1a.heap.size := Nat.lt_of_lt_of_le hBW (show Below w0b.heap.size w0b w1a from by rw [← hA]; (repeat (first | (with_reducible exact Below.refl _ _) | (with_reducible refine below_setCell ?_ (by first | (simp; done) | (simp; omega) | omega)) | (with_reducible refine below_alloc _ ?_) | (with_reducible refine below_drewN ?_ _) | (with_reducible refine below_drew_step ?_) | (with_reducible assumption) | (with_reducible refine below_after (by assumption) ?_)))).size
        have qa : w1a.cell? ⟨w0b.heap.size, j, none⟩ = some (.int .i64 (K : Int)) := by rw [← hA, HKj.out]; exact kind_cell _ _ j hj
        clear hA
        refine hK.out _ _ (fun _ => trivial) ?_
        clear hK K0
        try simp only [Act.put, List.setIfInBounds_toArray, List.set_cons_zero, List.set_cons_succ]
        refine d_step 3 (by kernel_rfl) rfl (fun K0 hK => ?_)
        go_simp
        go_at_call 7
        refine (H0.out _ (show Below w.heap.size w w1a from by (repeat (first | (with_reducible exact Below.refl _ _) | (with_reducible refine below_setCell ?_ (by first | (simp; done) | (simp; omega) | omega)) | (with_reducible refine below_alloc _ ?_) | (with_reducible refine below_drewN ?_ _) | (with_reducible refine below_drew_step ?_) | (with_reducible assumption) | (with_reducible refine below_after (by assumption) ?_))))).mono ?_
        rintro e wv ⟨rfl, rfl⟩
        refine hK.out _ _ (fun _ => trivial) ?_
        clear hK K0
        try simp only [Act.put, List.setIfInBounds_toArray, List.set_cons_zero, List.set_cons_succ]
        have hT : True := trivial
        refine d_takeY (v := ?_) 4 rfl (by kernel_rfl) (fun _ _ _ h => h) (Or.inl ⟨by rfl, ?_⟩) hT ?_
        rotate_left
        · intro wx _
          first | (go_simp; done) | (go_simp; with_reducible rfl)
        simp only [Act.put, List.setIfInBounds_toArray]
        refine d_more (S' := fun w' => w'.cell? ⟨w0b.heap.size, j, none⟩ = some (.int .i64 (K : Int)) ∧ True) (fun _ _ => trivial) _ _ _ _ ?_
        have hSx : w1a.cell? ⟨w0b.heap.size, j, none⟩ = some (.int .i64 (K : Int)) ∧ True := ⟨qa, trivial⟩
        refine d_takeY (v := ?_) 5 rfl (by kernel_rfl) (fun _ _ _ h => h) (Or.inl ⟨by rfl, ?_⟩) hSx ?_
        rotate_left
        · intro wx _
          first | (go_simp; done) | (go_simp; with_reducible rfl)
        simp only [Act.put]
        refine d_take (f := 30) (v := ?_) 6 rfl (by kernel_rfl) (fun _ _ _ h => h) (Or.inl ⟨by rfl, ?_⟩) hSx ?_
        rotate_left
        · intro wx hx
          obtain ⟨x0, x1⟩ := hx
          first | (go_simp; done) | (go_simp; with_reducible rfl)
        simp only [Act.put]
        clear hSx
        refine d_step 10 (by kernel_rfl) rfl (fun K0 hK => ?_)
        go_simp
        go_at_call 7
        refine (H1.out _ (show Below w.heap.size w w1a from by (repeat (first | (with_reducible exact Below.refl _ _) | (with_reducible refine below_setCell ?_ (by first | (simp; done) | (simp; omega) | omega)) | (with_reducible refine below_alloc _ ?_) | (with_reducible refine below_drewN ?_ _) | (with_reducible refine below_drew_step ?_) | (with_reducible assumption) | (with_reducible refine below_after (by assumption) ?_))))).mono ?_
        rintro e wv ⟨rfl, rfl⟩
        refine hK.out _ _ (fun _ => ⟨qa, trivial⟩) ?_
        clear hK K0
        try simp only [Act.put, List.setIfInBounds_toArray, List.set_cons_zero, List.set_cons_succ]
        have hT : True := trivial
        have hSx : w1a.cell? ⟨w0b.heap.size, j, none⟩ = some (.int .i64 (K : Int)) ∧ True := ⟨qa, trivial⟩
        refine d_takeY (v := ?_) 12 rfl (by kernel_rfl) (fun _ _ _ h => h) (Or.inl ⟨by rfl, ?_⟩) hSx ?_
        rotate_left
        · intro wx _
          first | (go_simp; done) | (go_simp; with_reducible rfl)
        simp only [Act.put, List.setIfInBounds_toArray]
        clear hSx
        have hSx : w1a.cell? ⟨w0b.heap.size, j, none⟩ = some (.int .i64 (K : Int)) ∧ True := ⟨qa, trivial⟩
        refine d_takeY (v := ?_) 13 rfl (by kernel_rfl) (fun _ _ _ h => h) (Or.inl ⟨by rfl, ?_⟩) hSx ?_
        rotate_left
        · intro wx _
          first | (go_simp; done) | (go_simp; with_reducible rfl)
        simp only [Act.put]
        clear hSx
        refine d_step 15 (by kernel_rfl) rfl (fun K0 hK => ?_)
        go_simp
        refine hK.out _ _ (fun h => by exact absurd h (by decide)) ?_
        clear hK K0
        refine d_done (by kernel_rfl) ?_ _
        try simp only [Act.put, List.setIfInBounds_toArray, List.set_cons_zero, List.set_cons_succ]
        go_wp2_with fail
        go_meet
        refine ⟨u.heap.size, rfl, ?_, ?_, ⟨?_, ?_, ?_, ?_, ?_, ?_, ?_, ?_, ?_⟩, ⟨?_, ?_, ?_, ?_, ?_, ?_, ?_, ?_, ?_⟩, ?_⟩
        all_goals first | (simp [go_sem, q0, q1, q2, q3, q4, q5, q6, q7, q8, f0, f1, f2, f3, f4, f5, f6, f7, f8]; done) | (simp; omega) | (repeat (first | (with_reducible exact Below.refl _ _) | (with_reducible refine below_setCell ?_ (by first | (simp; done) | (simp; omega) | omega)) | (with_reducible refine below_alloc _ ?_) | (with_reducible refine below_drewN ?_ _) | (with_reducible refine below_drew_step ?_) | (with_reducible assumption) | (with_reducible refine below_after (by assumption) ?_)))
      · skip
        go_simp
        go_at_call 7
        refine (H0.out _ (show Below w.heap.size w w0b from by (repeat (first | (with_reducible exact Below.refl _ _) | (with_reducible refine below_setCell ?_ (by first | (simp; done) | (simp; omega) | omega)) | (with_reducible refine below_alloc _ ?_) | (with_reducible refine below_drewN ?_ _) | (with_reducible refine below_drew_step ?_) | (with_reducible assumption) | (with_reducible refine below_after (by assumption) ?_))))).mono ?_
        rintro e wv ⟨rfl, rfl⟩
        refine hK.out _ _ (fun _ => trivial) ?_
        clear hK K0
        try simp only [Act.put, List.setIfInBounds_toArray, List.set_cons_zero, List.set_cons_succ]
        have hT : True := trivial
        refine d_takeY (v := ?_) 4 rfl (by kernel_rfl) (fun _ _ _ h => h) (Or.inl ⟨by rfl, ?_⟩) hT ?_
        rotate_left
        · intro wx _
          first | (go_simp; done) | (go_simp; with_reducible rfl)
        simp only [Act.put, List.setIfInBounds_toArray]
        refine d_two 0 10 (by kernel_rfl) rfl rfl (fun K0 hK => ?_) (fun K0 hK => ?_)
        · skip
          go_simp
          generalize hA : World.alloc _ _ = w2a
          have m_w2a : Below u.heap.size u w2a := by rw [← hA]; (repeat (first | (with_reducible exact Below.refl _ _) | (with_reducible refine below_setCell ?_ (by first | (simp; done) | (simp; omega) | omega)) | (with_reducible refine below_alloc _ ?_) | (with_reducible refine below_drewN ?_ _) | (with_reducible refine below_drew_step ?_) | (with_reducible assumption) | (with_reducible refine below_after (by assumption) ?_)))
          have n_w2a : u.heap.size ≤ w0b.heap.size := by have := m_w0b.size; exact this
          replace q0 : w2a.cell? ⟨u.heap.size, 0, none⟩ = _ := cell_step (show Below w0b.heap.size w0b w2a from by rw [← hA]; (repeat (first | (with_reducible exact Below.refl _ _) | (with_reducible refine below_setCell ?_ (by first | (simp; done) | (simp; omega) | omega)) | (with_reducible refine below_alloc _ ?_) | (with_reducible refine below_drewN ?_ _) | (with_reducible refine below_drew_step ?_) | (with_reducible assumption) | (with_reducible refine below_after (by assumption) ?_)))) q0
          replace q1 : w2a.cell? ⟨u.heap.size, 1, none⟩ = _ := cell_step (show Below w0b.heap.size w0b w2a from by rw [← hA]; (repeat (first | (with_reducible exact Below.refl _ _) | (with_reducible refine below_setCell ?_ (by first | (simp; done) | (simp; omega) | omega)) | (with_reducible refine below_alloc _ ?_) | (with_reducible refine below_drewN ?_ _) | (with_reducible refine below_drew_step ?_) | (with_reducible assumption) | (with_reducible refine below_after (by assumption) ?_)))) q1
          replace q2 : w2a.cell? ⟨u.heap.size, 2, none⟩ = _ := cell_step (show Below w0b.heap.size w0b w2a from by rw [← hA]; (repeat (first | (with_reducible exact Below.refl _ _) | (with_reducible refine below_setCell ?_ (by first | (simp; done) | (simp; omega) | omega)) | (with_reducible refine below_alloc _ ?_) | (with_reducible refine below_drewN ?_ _) | (with_reducible refine below_drew_step ?_) | (with_reducible assumption) | (with_reducible refine below_after (by assumption) ?_)))) q2
          replace q3 : w2a.cell? ⟨u.heap.size, 3, none⟩ = _ := cell_step (show Below w0b.heap.size w0b w2a from by rw [← hA]; (repeat (first | (with_reducible exact Below.refl _ _) | (with_reducible refine below_setCell ?_ (by first | (simp; done) | (simp; omega) | omega)) | (with_reducible refine below_alloc _ ?_) | (with_reducible refine below_drewN ?_ _) | (with_reducible refine below_drew_step ?_) | (with_reducible assumption) | (with_reducible refine below_after (by assumption) ?_)))) q3
          replace q4 : w2a.cell? ⟨u.heap.size, 4, none⟩ = _ := cell_step (show Below w0b.heap.size w0b w2a from by rw [← hA]; (repeat (first | (with_reducible exact Below.refl _ _) | (with_reducible refine below_setCell ?_ (by first | (simp; done) | (simp; omega) | omega)) | (with_reducible refine below_alloc _ ?_) | (with_reducible refine below_drewN ?_ _) | (with_reducible refine below_drew_step ?_) | (with_reducible assumption) | (with_reducible refine below_after (by assumption) ?_)))) q4
          replace q5 : w2a.cell? ⟨u.heap.size, 5, none⟩ = _ := cell_step (show Below w0b.heap.size w0b w2a from by rw [← hA]; (repeat (first | (with_reducible exact Below.refl _ _) | (with_reducible refine below_setCell ?_ (by first | (simp; done) | (simp; omega) | omega)) | (with_reducible refine below_alloc _ ?_) | (with_reducible refine below_drewN ?_ _) | (with_reducible refine below_drew_step ?_) | (with_reducible assumption) | (with_reducible refine below_after (by assumption) ?_)))) q5
          replace q6 : w2a.cell? ⟨u.heap.size, 6, none⟩ = _ := cell_step (show Below w0b.heap.size w0b w2a from by rw [← hA]; (repeat (first | (with_reducible exact Below.refl _ _) | (with_reducible refine below_setCell ?_ (by first | (simp; done) | (simp; omega) | omega)) | (with_reducible refine below_alloc _ ?_) | (with_reducible refine below_drewN ?_ _) | (with_reducible refine below_drew_step ?_) | (with_reducible assumption) | (with_reducible refine below_after (by assumption) ?_)))) q6
          replace q7 : w2a.cell? ⟨u.heap.size, 7, none⟩ = _ := cell_step (show Below w0b.heap.size w0b w2a from by rw [← hA]; (repeat (first | (with_reducible exact Below.refl _ _) | (with_reducible refine below_setCell ?_ (by first | (simp; done) | (simp; omega) | omega)) | (with_reducible refine below_alloc _ ?_) | (with_reducible refine below_drewN ?_ _) | (with_reducible refine below_drew_step ?_) | (with_reducible assumption) | (with_reducible refine below_after (by assumption) ?_)))) q7
          replace q8 : w2a.cell? ⟨u.heap.size, 8, none⟩ = _ := cell_step (show Below w0b.heap.size w0b w2a from by rw [← hA]; (repeat (first | (with_reducible exact Below.refl _ _) | (with_reducible refine below_setCell ?_ (by first | (simp; done) | (simp; omega) | omega)) | (with_reducible refine below_alloc _ ?_) | (with_reducible refine below_drewN ?_ _) | (with_reducible refine below_drew_step ?_) | (with_reducible assumption) | (with_reducible refine below_after (by assumption) ?_)))) q8
          replace f0 : w2a.frozen? ⟨u.heap.size, 0, none⟩ = false := ((show Below w0b.heap.size w0b w2a from by rw [← hA]; (repeat (first | (with_reducible exact Below.refl _ _) | (with_reducible refine below_setCell ?_ (by first | (simp; done) | (simp; omega) | omega)) | (with_reducible refine below_alloc _ ?_) | (with_reducible refine below_drewN ?_ _) | (with_reducible refine below_drew_step ?_) | (with_reducible assumption) | (with_reducible refine below_after (by assumption) ?_)))).frozen (p := ⟨u.heap.size, 0, none⟩) hBW).trans f0
          replace f1 : w2a.frozen? ⟨u.heap.size, 1, none⟩ = false := ((show Below w0b.heap.size w0b w2a from by rw [← hA]; (repeat (first | (with_reducible exact Below.refl _ _) | (with_reducible refine below_setCell ?_ (by first | (simp; done) | (simp; omega) | omega)) | (with_reducible refine below_alloc _ ?_) | (with_reducible refine below_drewN ?_ _) | (with_reducible refine below_drew_step ?_) | (with_reducible assumption) | (with_reducible refine below_after (by assumption) ?_)))).frozen (p := ⟨u.heap.size, 1, none⟩) hBW).trans f1
          replace f2 : w2a.frozen? ⟨u.heap.size, 2, none⟩ = false := ((show Below w0b.heap.size w0b w2a from by rw [← hA]; (repeat (first | (with_reducible exact Below.refl _ _) | (with_reducible refine below_setCell ?_ (by first | (simp; done) | (simp; omega) | omega)) | (with_reducible refine below_alloc _ ?_) | (with_reducible refine below_drewN ?_ _) | (with_reducible refine below_drew_step ?_) | (with_reducible assumption) | (with_reducible refine below_after (by assumption) ?_)))).frozen (p := ⟨u.heap.size, 2, none⟩) hBW).trans f2
          replace f3 : w2a.frozen? ⟨u.heap.size, 3, none⟩ = false := ((show Below w0b.heap.size w0b w2a from by rw [← hA]; (repeat (first | (with_reducible exact Below.refl _ _) | (with_reducible refine below_setCell ?_ (by first | (simp; done) | (simp; omega) | omega)) | (with_reducible refine below_alloc _ ?_) | (with_reducible refine below_drewN ?_ _) | (with_reducible refine below_drew_step ?_) | (with_reducible assumption) | (with_reducible refine below_after (by assumption) ?_)))).frozen (p := ⟨u.heap.size, 3, none⟩) hBW).trans f3
          replace f4 : w2a.frozen? ⟨u.heap.size, 4, none⟩ = false := ((show Below w0b.heap.size w0b w2a from by rw [← hA]; (repeat (first | (with_reducible exact Below.refl _ _) | (with_reducible refine below_setCell ?_ (by first | (simp; done) | (simp; omega) | omega)) | (with_reducible refine below_alloc _ ?_) | (with_reducible refine below_drewN ?_ _) | (with_reducible refine below_drew_step ?_) | (with_reducible assumption) | (with_reducible refine below_after (by assumption) ?_)))).frozen (p := ⟨u.heap.size, 4, none⟩) hBW).trans f4
          replace f5 : w2a.frozen? ⟨u.heap.size, 5, none⟩ = false := ((show Below w0b.heap.size w0b w2a from by rw [← hA]; (repeat (first | (with_reducible exact Below.refl _ _) | (with_reducible refine below_setCell ?_ (by first | (simp; done) | (simp; omega) | omega)) | (with_reducible refine below_alloc _ ?_) | (with_reducible refine below_drewN ?_ _) | (with_reducible refine below_drew_step ?_) | (with_reducible assumption) | (with_reducible refine below_after (by assumption) ?_)))).frozen (p := ⟨u.heap.size, 5, none⟩) hBW).trans f5
          replace f6 : w2a.frozen? ⟨u.heap.size, 6, none⟩ = false := ((show Below w0b.heap.size w0b w2a from by rw [← hA]; (repeat (first | (with_reducible exact Below.refl _ _) | (with_reducible refine below_setCell ?_ (by first | (simp; done) | (simp; omega) | omega)) | (with_reducible refine below_alloc _ ?_) | (with_reducible refine below_drewN ?_ _) | (with_reducible refine below_drew_step ?_) | (with_reducible assumption) | (with_reducible refine below_after (by assumption) ?_)))).frozen (p := ⟨u.heap.size, 6, none⟩) hBW).trans f6
          replace f7 : w2a.frozen? ⟨u.heap.size, 7, none⟩ = false := ((show Below w0b.heap.size w0b w2a from by rw [← hA]; (repeat (first | (with_reducible exact Below.refl _ _) | (with_reducible refine below_setCell ?_ (by first | (simp; done) | (simp; omega) | omega)) | (with_reducible refine below_alloc _ ?_) | (with_reducible refine below_drewN ?_ _) | (with_reducible refine below_drew_step ?_) | (with_reducible assumption) | (with_reducible refine below_after (by assumption) ?_)))).frozen (p := ⟨u.heap.size, 7, none⟩) hBW).trans f7
          replace f8 : w2a.frozen? ⟨u.heap.size, 8, none⟩ = false := ((show Below w0b.heap.size w0b w2a from by rw [← hA]; (repeat (first | (with_reducible exact Below.refl _ _) | (with_reducible refine below_setCell ?_ (by first | (simp; done) | (simp; omega) | omega)) | (with_reducible refine below_alloc _ ?_) | (with_reducible refine below_drewN ?_ _) | (with_reducible refine below_drew_step ?_) | (with_reducible assumption) | (with_reducible refine below_after (by assumption) ?_)))).frozen (p := ⟨u.heap.size, 8, none⟩) hBW).trans f8
          replace hBW : u.heap.size < w2a.heap.size := Nat.lt_of_lt_of_le hBW (show Below w0b.heap.size w0b w2a from by rw [← hA]; (repeat (first | (with_reducible exact Below.refl _ _) | (with_reducible refine below_setCell ?_ (by first | (simp; done) | (simp; omega) | omega)) | (with_reducible refine below_alloc _ ?_) | (with_reducible refine below_drewN ?_ _) | (with_reducible refine below_drew_step ?_) | (with_reducible assumption) | (with_reducible refine below_after (by assumption) ?_)))).size
          have qa : w2a.cell? ⟨w0b.heap.size, j, none⟩ = some (.int .i64 (K : Int)) := by rw [← hA, HKj.out]; exact kind_cell _ _ j hj
          clear hA
          refine hK.out _ _ (fun _ => trivial) ?_
          clear hK K0
          try simp only [Act.put, List.setIfInBounds_toArray, List.set_cons_zero, List.set_cons_succ]
          refine d_more (S' := fun w' => w'.cell? ⟨w0b.heap.size, j, none⟩ = some (.int .i64 (K : Int)) ∧ True) (fun _ _ => trivial) _ _ _ _ ?_
          have hSx : w2a.cell? ⟨w0b.heap.size, j, none⟩ = some (.int .i64 (K : Int)) ∧ True := ⟨qa, trivial⟩
          refine d_takeY (v := ?_) 5 rfl (by kernel_rfl) (fun _ _ _ h => h) (Or.inl ⟨by rfl, ?_⟩) hSx ?_
          rotate_left
          · intro wx _
            first | (go_simp; done) | (go_simp; with_reducible rfl)
          simp only [Act.put, List.setIfInBounds_toArray]
          refine d_take (f := 30) (v := ?_) 6 rfl (by kernel_rfl) (fun _ _ _ h => h) (Or.inl ⟨by rfl, ?_⟩) hSx ?_
          rotate_left
          · intro wx hx
            obtain ⟨x0, x1⟩ := hx
            first | (go_simp; done) | (go_simp; with_reducible rfl)
          simp only [Act.put]
          clear hSx
          refine d_step 10 (by kernel_rfl) rfl (fun K0 hK => ?_)
          go_simp
          go_at_call 7
          refine (H1.out _ (show Below w.heap.size w w2a from by (repeat (first | (with_reducible exact Below.refl _ _) | (with_reducible refine below_setCell ?_ (by first | (simp; done) | (simp; omega) | omega)) | (with_reducible refine below_alloc _ ?_) | (with_reducible refine below_drewN ?_ _) | (with_reducible refine below_drew_step ?_) | (with_reducible assumption) | (with_reducible refine below_after (by assumption) ?_))))).mono ?_
          rintro e wv ⟨rfl, rfl⟩
          refine hK.out _ _ (fun _ => ⟨qa, trivial⟩) ?_
          clear hK K0
          try simp only [Act.put, List.setIfInBounds_toArray, List.set_cons_zero, List.set_cons_succ]
          have hT : True := trivial
          have hSx : w2a.cell? ⟨w0b.heap.size, j, none⟩ = some (.int .i64 (K : Int)) ∧ True := ⟨qa, trivial⟩
          refine d_takeY (v := ?_) 12 rfl (by kernel_rfl) (fun _ _ _ h => h) (Or.inl ⟨by rfl, ?_⟩) hSx ?_
          rotate_left
          · intro wx _
            first | (go_simp; done) | (go_simp; with_reducible rfl)
          simp only [Act.put, List.setIfInBounds_toArray]
          clear hSx
          have hSx : w2a.cell? ⟨w0b.heap.size, j, none⟩ = some (.int .i64 (K : Int)) ∧ True := ⟨qa, trivial⟩
          refine d_takeY (v := ?_) 13 rfl (by kernel_rfl) (fun _ _ _ h => h) (Or.inl ⟨by rfl, ?_⟩) hSx ?_
          rotate_left
          · intro wx _
            first | (go_simp; done) | (go_simp; with_reducible rfl)
          simp only [Act.put]
          clear hSx
          refine d_step 15 (by kernel_rfl) rfl (fun K0 hK => ?_)
          go_simp
          refine hK.out _ _ (fun h => by exact absurd h (by decide)) ?_
          clear hK K0
          refine d_done (by kernel_rfl) ?_ _
          try simp only [Act.put, List.setIfInBounds_toArray, List.set_cons_zero, List.set_cons_succ]
          go_wp2_with fail
          go_meet
          refine ⟨u.heap.size, rfl, ?_, ?_, ⟨?_, ?_, ?_, ?_, ?_, ?_, ?_, ?_, ?_⟩, ⟨?_, ?_, ?_, ?_, ?_, ?_, ?_, ?_, ?_⟩, ?_⟩
          all_goals first | (simp [go_sem, q0, q1, q2, q3, q4, q5, q6, q7, q8, f0, f1, f2, f3, f4, f5, f6, f7, f8]; done) | (simp; omega) | (repeat (first | (with_reducible exact Below.refl _ _) | (with_reducible refine below_setCell ?_ (by first | (simp; done) | (simp; omega) | omega)) | (with_reducible refine below_alloc _ ?_) | (with_reducible refine below_drewN ?_ _) | (with_reducible refine below_drew_step ?_) | (with_reducible assumption) | (with_reducible refine below_after (by assumption) ?_)))
        · skip
          go_simp
          go_at_call 7
          refine (H1.out _ (show Below w.heap.size w w0b from by (repeat (first | (with_reducible exact Below.refl _ _) | (with_reducible refine below_setCell ?_ (by first | (simp; done) | (simp; omega) | omega)) | (with_reducible refine below_alloc _ ?_) | (with_reducible refine below_drewN ?_ _) | (with_reducible refine below_drew_step ?_) | (with_reducible assumption) | (with_reducible refine below_after (by assumption) ?_))))).mono ?_
          rintro e wv ⟨rfl, rfl⟩
          refine hK.out _ _ (fun _ => trivial) ?_
          clear hK K0
          try simp only [Act.put, List.setIfInBounds_toArray, List.set_cons_zero, List.set_cons_succ]
          have hT : True := trivial
          refine d_takeY (v := ?_) 12 rfl (by kernel_rfl) (fun _ _ _ h => h) (Or.inl ⟨by rfl, ?_⟩) hT ?_
          rotate_left
          · intro wx _
            first | (go_simp; done) | (go_simp; with_reducible rfl)
          simp only [Act.put, List.setIfInBounds_toArray]
          refine d_step 0 (by kernel_rfl) rfl (fun K0 hK => ?_)
          go_simp
          generalize hA : World.alloc _ _ = w3a
          have m_w3a : Below u.heap.size u w3a := by rw [← hA]; (repeat (first | (with_reducible exact Below.refl _ _) | (with_reducible refine below_setCell ?_ (by first | (simp; done) | (simp; omega) | omega)) | (with_reducible refine below_alloc _ ?_) | (with_reducible refine below_drewN ?_ _) | (with_reducible refine below_drew_step ?_) | (with_reducible assumption) | (with_reducible refine below_after (by assumption) ?_)))
          have n_w3a : u.heap.size ≤ w0b.heap.size := by have := m_w0b.size; exact this
          replace q0 : w3a.cell? ⟨u.heap.size, 0, none⟩ = _ := cell_step (show Below w0b.heap.size w0b w3a from by rw [← hA]; (repeat (first | (with_reducible exact Below.refl _ _) | (with_reducible refine below_setCell ?_ (by first | (simp; done) | (simp; omega) | omega)) | (with_reducible refine below_alloc _ ?_) | (with_reducible refine below_drewN ?_ _) | (with_reducible refine below_drew_step ?_) | (with_reducible assumption) | (with_reducible refine below_after (by assumption) ?_)))) q0
          replace q1 : w3a.cell? ⟨u.heap.size, 1, none⟩ = _ := cell_step (show Below w0b.heap.size w0b w3a from by rw [← hA]; (repeat (first | (with_reducible exact Below.refl _ _) | (with_reducible refine below_setCell ?_ (by first | (simp; done) | (simp; omega) | omega)) | (with_reducible refine below_alloc _ ?_) | (with_reducible refine below_drewN ?_ _) | (with_reducible refine below_drew_step ?_) | (with_reducible assumption) | (with_reducible refine below_after (by assumption) ?_)))) q1
          replace q2 : w3a.cell? ⟨u.heap.size, 2, none⟩ = _ := cell_step (show Below w0b.heap.size w0b w3a from by rw [← hA]; (repeat (first | (with_reducible exact Below.refl _ _) | (with_reducible refine below_setCell ?_ (by first | (simp; done) | (simp; omega) | omega)) | (with_reducible refine below_alloc _ ?_) | (with_reducible refine below_drewN ?_ _) | (with_reducible refine below_drew_step ?_) | (with_reducible assumption) | (with_reducible refine below_after (by assumption) ?_)))) q2
          replace q3 : w3a.cell? ⟨u.heap.size, 3, none⟩ = _ := cell_step (show Below w0b.heap.size w0b w3a from by rw [← hA]; (repeat (first | (with_reducible exact Below.refl _ _) | (with_reducible refine below_setCell ?_ (by first | (simp; done) | (simp; omega) | omega)) | (with_reducible refine below_alloc _ ?_) | (with_reducible refine below_drewN ?_ _) | (with_reducible refine below_drew_step ?_) | (with_reducible assumption) | (with_reducible refine below_after (by assumption) ?_)))) q3
          replace q4 : w3a.cell? ⟨u.heap.size, 4, none⟩ = _ := cell_step (show Below w0b.heap.size w0b w3a from by rw [← hA]; (repeat (first | (with_reducible exact Below.refl _ _) | (with_reducible refine below_setCell ?_ (by first | (simp; done) | (simp; omega) | omega)) | (with_reducible refine below_alloc _ ?_) | (with_reducible refine below_drewN ?_ _) | (with_reducible refine below_drew_step ?_) | (with_reducible assumption) | (with_reducible refine below_after (by assumption) ?_)))) q4
          replace q5 : w3a.cell? ⟨u.heap.size, 5, none⟩ = _ := cell_step (show Below w0b.heap.size w0b w3a from by rw [← hA]; (repeat (first | (with_reducible exact Below.refl _ _) | (with_reducible refine below_setCell ?_ (by first | (simp; done) | (simp; omega) | omega)) | (with_reducible refine below_alloc _ ?_) | (with_reducible refine below_drewN ?_ _) | (with_reducible refine below_drew_step ?_) | (with_reducible assumption) | (with_reducible refine below_after (by assumption) ?_)))) q5
          replace q6 : w3a.cell? ⟨u.heap.size, 6, none⟩ = _ := cell_step (show Below w0b.heap.size w0b w3a from by rw [← hA]; (repeat (first | (with_reducible exact Below.refl _ _) | (with_reducible refine below_setCell ?_ (by first | (simp; done) | (simp; omega) | omega)) | (with_reducible refine below_alloc _ ?_) | (with_reducible refine below_drewN ?_ _) | (with_reducible refine below_drew_step ?_) | (with_reducible assumption) | (with_reducible refine below_after (by assumption) ?_)))) q6
          replace q7 : w3a.cell? ⟨u.heap.size, 7, none⟩ = _ := cell_step (show Below w0b.heap.size w0b w3a from by rw [← hA]; (repeat (first | (with_reducible exact Below.refl _ _) | (with_reducible refine below_setCell ?_ (by first | (simp; done) | (simp; omega) | omega)) | (with_reducible refine below_alloc _ ?_) | (with_reducible refine below_drewN ?_ _) | (with_reducible refine below_drew_step ?_) | (with_reducible assumption) | (with_reducible refine below_after (by assumption) ?_)))) q7
          replace q8 : w3a.cell? ⟨u.heap.size, 8, none⟩ = _ := cell_step (show Below w0b.heap.size w0b w3a from by rw [← hA]; (repeat (first | (with_reducible exact Below.refl _ _) | (with_reducible refine below_setCell ?_ (by first | (simp; done) | (simp; omega) | omega)) | (with_reducible refine below_alloc _ ?_) | (with_reducible refine below_drewN ?_ _) | (with_reducible refine below_drew_step ?_) | (with_reducible assumption) | (with_reducible refine below_after (by assumption) ?_)))) q8
          replace f0 : w3a.frozen? ⟨u.heap.size, 0, none⟩ = false := ((show Below w0b.heap.size w0b w3a from by rw [← hA]; (repeat (first | (with_reducible exact Below.refl _ _) | (with_reducible refine below_setCell ?_ (by first | (simp; done) | (simp; omega) | omega)) | (with_reducible refine below_alloc _ ?_) | (with_reducible refine below_drewN ?_ _) | (with_reducible refine below_drew_step ?_) | (with_reducible assumption) | (with_reducible refine below_after (by assumption) ?_)))).frozen (p := ⟨u.heap.size, 0, none⟩) hBW).trans f0
          replace f1 : w3a.frozen? ⟨u.heap.size, 1, none⟩ = false := ((show Below w0b.heap.size w0b w3a from by rw [← hA]; (repeat (first | (with_reducible exact Below.refl _ _) | (with_reducible refine below_setCell ?_ (by first | (simp; done) | (simp; omega) | omega)) | (with_reducible refine below_alloc _ ?_) | (with_reducible refine below_drewN ?_ _) | (with_reducible refine below_drew_step ?_) | (with_reducible assumption) | (with_reducible refine below_after (by assumption) ?_)))).frozen (p := ⟨u.heap.size, 1, none⟩) hBW).trans f1
          replace f2 : w3a.frozen? ⟨u.heap.size, 2, none⟩ = false := ((show Below w0b.heap.size w0b w3a from by rw [← hA]; (repeat (first | (with_reducible exact Below.refl _ _) | (with_reducible refine below_setCell ?_ (by first | (simp; done) | (simp; omega) | omega)) | (with_reducible refine below_alloc _ ?_) | (with_reducible refine below_drewN ?_ _) | (with_reducible refine below_drew_step ?_) | (with_reducible assumption) | (with_reducible refine below_after (by assumption) ?_)))).frozen (p := ⟨u.heap.size, 2, none⟩) hBW).trans f2
          replace f3 : w3a.frozen? ⟨u.heap.size, 3, none⟩ = false := ((show Below w0b.heap.size w0b w3a from by rw [← hA]; (repeat (first | (with_reducible exact Below.refl _ _) | (with_reducible refine below_setCell ?_ (by first | (simp; done) | (simp; omega) | omega)) | (with_reducible refine below_alloc _ ?_) | (with_reducible refine below_drewN ?_ _) | (with_reducible refine below_drew_step ?_) | (with_reducible assumption) | (with_reducible refine below_after (by assumption) ?_)))).frozen (p := ⟨u.heap.size, 3, none⟩) hBW).trans f3
          replace f4 : w3a.frozen? ⟨u.heap.size, 4, none⟩ = false := ((show Below w0b.heap.size w0b w3a from by rw [← hA]; (repeat (first | (with_reducible exact Below.refl _ _) | (with_reducible refine below_setCell ?_ (by first | (simp; done) | (simp; omega) | omega)) | (with_reducible refine below_alloc _ ?_) | (with_reducible refine below_drewN ?_ _) | (with_reducible refine below_drew_step ?_) | (with_reducible assumption) | (with_reducible refine below_after (by assumption) ?_)))).frozen (p := ⟨u.heap.size, 4, none⟩) hBW).trans f4
          replace f5 : w3a.frozen? ⟨u.heap.size, 5, none⟩ = false := ((show Below w0b.heap.size w0b w3a from by rw [← hA]; (repeat (first | (with_reducible exact Below.refl _ _) | (with_reducible refine below_setCell ?_ (by first | (simp; done) | (simp; omega) | omega)) | (with_reducible refine below_alloc _ ?_) | (with_reducible refine below_drewN ?_ _) | (with_reducible refine below_drew_step ?_) | (with_reducible assumption) | (with_reducible refine below_after (by assumption) ?_)))).frozen (p := ⟨u.heap.size, 5, none⟩) hBW).trans f5
          replace f6 : w3a.frozen? ⟨u.heap.size, 6, none⟩ = false := ((show Below w0b.heap.size w0b w3a from by rw [← hA]; (repeat (first | (with_reducible exact Below.refl _ _) | (with_reducible refine below_setCell ?_ (by first | (simp; done) | (simp; omega) | omega)) | (with_reducible refine below_alloc _ ?_) | (with_reducible refine below_drewN ?_ _) | (with_reducible refine below_drew_step ?_) | (with_reducible assumption) | (with_reducible refine below_after (by assumption) ?_)))).frozen (p := ⟨u.heap.size, 6, none⟩) hBW).trans f6
          replace f7 : w3a.frozen? ⟨u.heap.size, 7, none⟩ = false := ((show Below w0b.heap.size w0b w3a from by rw [← hA]; (repeat (first | (with_reducible exact Below.refl _ _) | (with_reducible refine below_setCell ?_ (by first | (simp; done) | (simp; omega) | omega)) | (with_reducible refine below_alloc _ ?_) | (with_reducible refine below_drewN ?_ _) | (with_reducible refine below_drew_step ?_) | (with_reducible assumption) | (with_reducible refine below_after (by assumption) ?_)))).frozen (p := ⟨u.heap.size, 7, none⟩) hBW).trans f7
          replace f8 : w3a.frozen? ⟨u.heap.size, 8, none⟩ = false := ((show Below w0b.heap.size w0b w3a from by rw [← hA]; (repeat (first | (with_reducible exact Below.refl _ _) | (with_reducible refine below_setCell ?_ (by first | (simp; done) | (simp; omega) | omega)) | (with_reducible refine below_alloc _ ?_) | (with_reducible refine below_drewN ?_ _) | (with_reducible refine below_drew_step ?_) | (with_reducible assumption) | (with_reducible refine below_after (by assumption) ?_)))).frozen (p := ⟨u.heap.size, 8, none⟩) hBW).trans f8
          replace hBW : u.heap.size < w3a.heap.size := Nat.lt_of_lt_of_le hBW (show Below w0b.heap.size w0b w3a from by rw [← hA]; (repeat (first | (with_reducible exact Below.refl _ _) | (with_reducible refine below_setCell ?_ (by first | (simp; done) | (simp; omega) | omega)) | (with_reducible refine below_alloc _ ?_) | (with_reducible refine below_drewN ?_ _) | (with_reducible refine below_drew_step ?_) | (with_reducible assumption) | (with_reducible refine below_after (by assumption) ?_)))).size
          have qa : w3a.cell? ⟨w0b.heap.size, j, none⟩ = some (.int .i64 (K : Int)) := by rw [← hA, HKj.out]; exact kind_cell _ _ j hj
          clear hA
          refine hK.out _ _ (fun _ => trivial) ?_
          clear hK K0
          try simp only [Act.put, List.setIfInBounds_toArray, List.set_cons_zero, List.set_cons_succ]
          refine d_more (S' := fun w' => w'.cell? ⟨w0b.heap.size, j, none⟩ = some (.int .i64 (K : Int)) ∧ True) (fun _ _ => trivial) _ _ _ _ ?_
          have hSx : w3a.cell? ⟨w0b.heap.size, j, none⟩ = some (.int .i64 (K : Int)) ∧ True := ⟨qa, trivial⟩
          refine d_takeY (v := ?_) 5 rfl (by kernel_rfl) (fun _ _ _ h => h) (Or.inl ⟨by rfl, ?_⟩) hSx ?_
          rotate_left
          · intro wx _
            first | (go_simp; done) | (go_simp; with_reducible rfl)
          simp only [Act.put, List.setIfInBounds_toArray]
          refine d_take (f := 30) (v := ?_) 6 rfl (by kernel_rfl) (fun _ _ _ h => h) (Or.inl ⟨by rfl, ?_⟩) hSx ?_
          rotate_left
          · intro wx hx
            obtain ⟨x0, x1⟩ := hx
            first | (go_simp; done) | (go_simp; with_reducible rfl)
          simp only [Act.put]
          clear hSx
          have hSx : w3a.cell? ⟨w0b.heap.size, j, none⟩ = some (.int .i64 (K : Int)) ∧ True := ⟨qa, trivial⟩
          refine d_takeY (v := ?_) 13 rfl (by kernel_rfl) (fun _ _ _ h => h) (Or.inl ⟨by rfl, ?_⟩) hSx ?_
          rotate_left
          · intro wx _
            first | (go_simp; done) | (go_simp; with_reducible rfl)
          simp only [Act.put]
          clear hSx
          refine d_step 15 (by kernel_rfl) rfl (fun K0 hK => ?_)
          go_simp
          refine hK.out _ _ (fun h => by exact absurd h (by decide)) ?_
          clear hK K0
          refine d_done (by kernel_rfl) ?_ _
          try simp only [Act.put, List.setIfInBounds_toArray, List.set_cons_zero, List.set_cons_succ]
          go_wp2_with fail
          go_meet
          refine ⟨u.heap.size, rfl, ?_, ?_, ⟨?_, ?_, ?_, ?_, ?_, ?_, ?_, ?_, ?_⟩, ⟨?_, ?_, ?_, ?_, ?_, ?_, ?_, ?_, ?_⟩, ?_⟩
          all_goals first | (simp [go_sem, q0, q1, q2, q3, q4, q5, q6, q7, q8, f0, f1, f2, f3, f4, f5, f6, f7, f8]; done) | (simp; omega) | (repeat (first | (with_reducible exact Below.refl _ _) | (with_reducible refine below_setCell ?_ (by first | (simp; done) | (simp; omega) | omega)) | (with_reducible refine below_alloc _ ?_) | (with_reducible refine below_drewN ?_ _) | (with_reducible refine below_drew_step ?_) | (with_reducible assumption) | (with_reducible refine below_after (by assumption) ?_)))
  case rest =>
    obtain ⟨B, rfl, hB1, hB2, ⟨c0, c1, c2, c3, c4, c5, c6, c7, c8⟩, ⟨f0, f1, f2, f3, f4, f5, f6, f7, f8⟩, hc⟩ := hcut
    clear HKj H0 H1 hmod htm hj hjI hx hx1 hsm hst hw1
    replace r0 := cell_step hc r0
    replace r1 := cell_step hc r1
    replace r2 := cell_step hc r2
    replace r3 := cell_step hc r3
    replace r4 := cell_step hc r4
    replace r5 := cell_step hc r5
    replace r6 := cell_step hc r6
    replace r7 := cell_step hc r7
    replace r8 := cell_step hc r8
    replace g0 : wc.frozen? ⟨w.heap.size, 0, none⟩ = false := (hc.frozen (p := ⟨w.heap.size, 0, none⟩) zu).trans g0
    replace g1 : wc.frozen? ⟨w.heap.size, 1, none⟩ = false := (hc.frozen (p := ⟨w.heap.size, 1, none⟩) zu).trans g1
    replace g2 : wc.frozen? ⟨w.heap.size, 2, none⟩ = false := (hc.frozen (p := ⟨w.heap.size, 2, none⟩) zu).trans g2
    replace g3 : wc.frozen? ⟨w.heap.size, 3, none⟩ = false := (hc.frozen (p := ⟨w.heap.size, 3, none⟩) zu).trans g3
    replace g4 : wc.frozen? ⟨w.heap.size, 4, none⟩ = false := (hc.frozen (p := ⟨w.heap.size, 4, none⟩) zu).trans g4
    replace g5 : wc.frozen? ⟨w.heap.size, 5, none⟩ = false := (hc.frozen (p := ⟨w.heap.size, 5, none⟩) zu).trans g5
    replace g6 : wc.frozen? ⟨w.heap.size, 6, none⟩ = false := (hc.frozen (p := ⟨w.heap.size, 6, none⟩) zu).trans g6
    replace g7 : wc.frozen? ⟨w.heap.size, 7, none⟩ = false := (hc.frozen (p := ⟨w.heap.size, 7, none⟩) zu).trans g7
    replace g8 : wc.frozen? ⟨w.heap.size, 8, none⟩ = false := (hc.frozen (p := ⟨w.heap.size, 8, none⟩) zu).trans g8
    have hne : w.heap.size ≠ B := by omega
    have hne2 : B ≠ w.heap.size := by omega
    have zc : w.heap.size < wc.heap.size := by omega
    have bc : Below w.heap.size w wc := below_after hc bu
    clear hc bu
    by_cases h4 : K = 4
    · subst h4
      have H3 := Lib.hid (H2.out rfl)
      have hcast : ((4 : Nat) : Int) = 4 := rfl
      rw [hcast] at c0
      have hw2 : IntKind.i64.wrap ((i : Int) + 2) = (i : Int) + 2 := IntWalk.i64_in _ (by omega)
      clear hcast H2 HY
      go_wp2_with fail
      refine (H3.out _ bc).mono ?_
      rintro e w2 ⟨rfl, k2⟩
      replace r0 := cell_step k2 r0
      replace r1 := cell_step k2 r1
      replace r2 := cell_step k2 r2
      replace r3 := cell_step k2 r3
      replace r4 := cell_step k2 r4
      replace r5 := cell_step k2 r5
      replace r6 := cell_step k2 r6
      replace r7 := cell_step k2 r7
      replace r8 := cell_step k2 r8
      replace c0 := cell_step k2 c0
      replace c1 := cell_step k2 c1
      replace c2 := cell_step k2 c2
      replace c3 := cell_step k2 c3
      replace c4 := cell_step k2 c4
      replace c5 := cell_step k2 c5
      replace c6 := cell_step k2 c6
      replace c7 := cell_step k2 c7
      replace c8 := cell_step k2 c8
      replace g0 : w2.frozen? ⟨w.heap.size, 0, none⟩ = false := (k2.frozen (p := ⟨w.heap.size, 0, none⟩) zc).trans g0
      replace g1 : w2.frozen? ⟨w.heap.size, 1, none⟩ = false := (k2.frozen (p := ⟨w.heap.size, 1, none⟩) zc).trans g1
      replace g2 : w2.frozen? ⟨w.heap.size, 2, none⟩ = false := (k2.frozen (p := ⟨w.heap.size, 2, none⟩) zc).trans g2
      replace g3 : w2.frozen? ⟨w.heap.size, 3, none⟩ = false := (k2.frozen (p := ⟨w.heap.size, 3, none⟩) zc).trans g3
      replace g4 : w2.frozen? ⟨w.heap.size, 4, none⟩ = false := (k2.frozen (p := ⟨w.heap.size, 4, none⟩) zc).trans g4
      replace g5 : w2.frozen? ⟨w.heap.size, 5, none⟩ = false := (k2.frozen (p := ⟨w.heap.size, 5, none⟩) zc).trans g5
      replace g6 : w2.frozen? ⟨w.heap.size, 6, none⟩ = false := (k2.frozen (p := ⟨w.heap.size, 6, none⟩) zc).trans g6
      replace g7 : w2.frozen? ⟨w.heap.size, 7, none⟩ = false := (k2.frozen (p := ⟨w.heap.size, 7, none⟩) zc).trans g7
      replace g8 : w2.frozen? ⟨w.heap.size, 8, none⟩ = false := (k2.frozen (p := ⟨w.heap.size, 8, none⟩) zc).trans g8
      replace f0 : w2.frozen? ⟨B, 0, none⟩ = false := (k2.frozen (p := ⟨B, 0, none⟩) hB2).trans f0
      replace f1 : w2.frozen? ⟨B, 1, none⟩ = false := (k2.frozen (p := ⟨B, 1, none⟩) hB2).trans f1
      replace f2 : w2.frozen? ⟨B, 2, none⟩ = false := (k2.frozen (p := ⟨B, 2, none⟩) hB2).trans f2
      replace f3 : w2.frozen? ⟨B, 3, none⟩ = false := (k2.frozen (p := ⟨B, 3, none⟩) hB2).trans f3
      replace f4 : w2.frozen? ⟨B, 4, none⟩ = false := (k2.frozen (p := ⟨B, 4, none⟩) hB2).trans f4
      replace f5 : w2.frozen? ⟨B, 5, none⟩ = false := (k2.frozen (p := ⟨B, 5, none⟩) hB2).trans f5
      replace f6 : w2.frozen? ⟨B, 6, none⟩ = false := (k2.frozen (p := ⟨B, 6, none⟩) hB2).trans f6
      replace f7 : w2.frozen? ⟨B, 7, none⟩ = false := (k2.frozen (p := ⟨B, 7, none⟩) hB2).trans f7
      replace f8 : w2.frozen? ⟨B, 8, none⟩ = false := (k2.frozen (p := ⟨B, 8, none⟩) hB2).trans f8
      replace bc : Below w.heap.size w w2 := below_after k2 bc
      have hBz : w.heap.size ≤ B := by omega
      clear k2 H3
      go_wp2
      refine bodyPost_ret (v := .agg #[.int .i64 4, .int .i64 (s : Int), .int .i64 y.Kind, .int .i64 y.Txn, .int .i64 y.Time, .int .i64 y.Lead, .slice none 0 0, .slice none 0 0, .bool y.Yes]) (by simp [results, Try.results19, go_sem, r0, r1, r2, r3, r4, r5, r6, r7, r8]) rfl ⟨rfl, by (repeat (first | (with_reducible exact Below.refl _ _) | (with_reducible refine below_setCell ?_ (by first | (simp; done) | (simp; omega) | omega)) | (with_reducible refine below_alloc _ ?_) | (with_reducible refine below_drewN ?_ _) | (with_reducible assumption) | (with_reducible refine below_after (by assumption) ?_)))⟩
    · obtain rfl := HY.out h4
      have hk4 : ((K : Int) == 4) = false := by simp; omega
      clear H2 HY
      go_wp2
      refine bodyPost_ret (v := .agg #[.int .i64 (K : Int), .int .i64 (s : Int), .int .i64 0, .int .i64 0, .int .i64 0, .int .i64 0, .slice none 0 0, .slice none 0 0, .bool false]) (by simp [results, Try.results19, go_sem, r0, r1, r2, r3, r4, r5, r6, r7, r8]) rfl ⟨rfl, by (repeat (first | (with_reducible exact Below.refl _ _) | (with_reducible refine below_setCell ?_ (by first | (simp; done) | (simp; omega) | omega)) | (with_reducible refine below_alloc _ ?_) | (with_reducible refine below_drewN ?_ _) | (with_reducible assumption) | (with_reducible refine below_after (by assumption) ?_)))⟩

theorem vAct_any (v : Value) (cd : List UInt8) (hl : cd.length ≤ 65536) (i n : Nat) (hn : 3 ≤ n ∧ n ≤ 5) (hi : i ≤ 60000) (w : World) (h : Rd Cod.u8 w v cd) : ∃ K : Nat, 1 ≤ K ∧ K ≤ 6 ∧ ∃ S : Int, I64 S ∧ ∃ y : RecD, (y.Reads = [] ∧ y.Writes = []) ∧ (I64 y.Kind ∧ I64 y.Txn ∧ I64 y.Time ∧ I64 y.Lead) ∧
    Calls Try.prog 19 #[v, .int .i64 (i : Int), .int .i64 (n : Int)] w fun e w' => e = .returned (actV K S y) ∧ Below w.heap.size w w' := by
  obtain ⟨p, c, rfl, -⟩ := h.form
  have hs := Nat.mod_lt (vAtN cd (i + 1)) (show 0 < n by omega)
  have hS : I64 ((vAtN cd (i + 1) % n : Nat) : Int) := by unfold I64; omega
  have hx0 := vAtN_lt cd i
  have hx1 := vAtN_lt cd (i + 1)
  refine ⟨kindN (vAtN cd i % 12), (kindN_in _).1, (kindN_in _).2, _, hS, actR cd i, actR_light cd i, actR_i64 cd i, ?_⟩
  refine vAct_j p cd.length c i n (vAtN cd i) (vAtN cd (i + 1)) _ _ _ (actR cd i) rfl (by omega) (by omega) rfl hn hi rfl w ?_ ?_ ?_ ?_
  · exact fun W b => vAt_val _ cd hl i (by omega) W (h.below b)
  · exact fun W b => vAt_val _ cd hl (i + 1) (by omega) W (h.below b)
  · intro hK W b
    have e : actR cd i = recN cd (i + 2) := by unfold actR; rw [if_pos hK]
    rw [e]
    exact vRec_any _ cd hl (i + 2) (by omega) W (h.below b)
  · intro hK
    unfold actR
    rw [if_neg hK]

end Go.Proofs.Ytfaefjdlfjhniaa
