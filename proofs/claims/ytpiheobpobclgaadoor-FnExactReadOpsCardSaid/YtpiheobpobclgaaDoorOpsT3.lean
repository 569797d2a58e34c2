/- spec.l5OpsText. Printed by mkopst.py. -/
import Derived.Test.YtpiheobpobclgaaDoorOpsT1
namespace Go.Proofs.YtpiheobpobclgaaDoor
open Go.RowKit

set_option maxRecDepth 100000 in
set_option maxHeartbeats 6400000 in
/-- spec.l5OpsText -/
theorem l5OpsText_any (v : Value) (l : List OpD) (hl : costOpS l ≤ 1048576) (hq : goodOB l = true) (w : World) (h : Rd Cod.op w v l) :
    Calls Tryd.prog 25 #[v] w fun e w' => e = .returned (.string (opsS l)) ∧ Below w.heap.size w w' := by
  obtain ⟨h8, hgood⟩ := goodOB_parts hq
  have HG := Lib.hid hgood
  have HL := Lib.hid (fun x (hx : x ∈ l) => costOp_get hl hx)
  obtain ⟨p, c, rfl, _, _, r⟩ := h.form
  have R := Lib.hid r
  clear r h hl hq hgood
  obtain ⟨n, hn⟩ : ∃ n : Nat, l.length = n := ⟨_, rfl⟩
  have Hn := Lib.hid hn
  have hnb : (n : Int) ≤ 8 := by omega
  have HS : Hid (∀ k, k ≤ n → (opsS (l.take k)).size ≤ 9000000) := Lib.hid (fun k hk => by
    have := opsS_size (l.take k) fun x hx => by
      have hx2 := List.mem_of_mem_take hx
      obtain ⟨_, b0, b1⟩ := opB_parts (HG.out x hx2)
      have h1 := opT_size (x := x) (by omega) (by omega)
      have h2 := HL.out x hx2
      omega
    rw [List.length_take] at this
    omega)
  rw [hn]
  clear hn h8
  go_enter Tryd.func25, Tryd.ntmps25
  go_wp2
  go_loopw [3, 8] (fun s i wr => ∃ k : Nat, i = .int .i64 (k : Int) ∧ k ≤ n ∧ s = .string (opsS (l.take k)) ∧ Below w.heap.size w wr) (fun _ i _ => n - (intOf i).toNat)
  case atStart => exact ⟨0, rfl, Nat.zero_le _, rfl, Below.refl _ _⟩
  case round =>
    obtain ⟨k, rfl, hk, rfl, hb⟩ := hrel
    have hbs := hb.size
    by_cases hlt : k < n
    · have hlt2 : (k : Int) < (n : Int) := by omega
      have hkl : k < l.length := by have := Hn.out; omega
      obtain ⟨g, o, rfl, hg, hc⟩ := R.out (by have := Hn.out; omega)
      have at0 := (hc k hkl).below hg hb
      have Ht2 : Hid (l.take (k + 1) = l.take k ++ [l[k]]) := Lib.hid (List.take_succ_eq_append_getElem hkl)
      have Hne : Hid (k ≠ 0 → l.take k ≠ []) := Lib.hid (fun h0 h1 => by
        have := congrArg List.length h1
        rw [List.length_take, show ([] : List OpD).length = 0 from rfl] at this
        have := Hn.out
        omega)
      obtain ⟨hKK, hB0, hB1⟩ := opB_parts (HG.out l[k] (List.getElem_mem hkl))
      have hsz := HL.out l[k] (List.getElem_mem hkl)
      have hsk := HS.out k hk
      obtain ⟨x, es⟩ : ∃ x, l[k] = x := ⟨_, rfl⟩
      rw [es] at at0 Ht2 hKK hB0 hB1 hsz
      clear hc es hkl
      obtain ⟨d0, d1, d2, d3, z0, zk, z2, z3⟩ := at_op at0
      rw [show o + k * Cod.op.size = o + k * 4 from rfl] at *
      clear at0 z0 z2 z3
      obtain ⟨xK, xKey, xVal, xBy⟩ := x
      dsimp only at *
      have HKK := Lib.hid hKK
      clear hKK
      have hsw := wordO_size xK
      have hsi := intT_le (n := xBy) (by omega) (by omega)
      have HB := Lib.hid (fun W => l5Text_any xBy (by omega) (by omega) W)
      have y1 : (⟨#[32]⟩ : ByteArray).size = 1 := rfl
      have y2 : (⟨#[59, 32]⟩ : ByteArray).size = 2 := rfl
      have HH := Lib.hid (show headO ⟨xK, xKey, xVal, xBy⟩ = (wordO xK ++ ⟨#[32]⟩) ++ xKey from rfl)
      obtain ⟨tBy, HtB⟩ : ∃ t, Hid (intT xBy = t) := ⟨_, Lib.hid rfl⟩
      rw [HtB.out] at HB hsi
      obtain ⟨t0, Ht0⟩ : ∃ t, Hid ((if k = 0 then (⟨#[]⟩ : ByteArray) else opsS (l.take k) ++ ⟨#[59, 32]⟩) = t) := ⟨_, Lib.hid rfl⟩
      have hst0 : t0.size ≤ 9000002 := by
        rw [← Ht0.out]
        split
        · exact Nat.zero_le _
        · rw [ByteArray.size_append]; omega
      have HK0 : Hid (k = 0 → opsS (l.take k) = t0) := Lib.hid (fun h0 => by rw [← Ht0.out, if_pos h0, h0]; rfl)
      have HK1 : Hid (k ≠ 0 → opsS (l.take k) ++ ⟨#[59, 32]⟩ = t0) := Lib.hid (fun h0 => by rw [← Ht0.out, if_neg h0])
      have HF : Hid (opsS (l.take (k + 1)) = t0 ++ opT ⟨xK, xKey, xVal, xBy⟩) := Lib.hid (by
        rw [Ht2.out]
        by_cases h0 : k = 0
        · subst h0
          rw [← HK0.out rfl, List.take_zero]
          show opT _ = (⟨#[]⟩ : ByteArray) ++ _
          exact ByteArray.empty_append.symm
        · rw [← HK1.out h0, opsS_snoc (Hne.out h0)])
      clear Ht0 Ht2 Hne
      obtain ⟨sK, HsK⟩ : ∃ t, Hid (opsS (l.take k) = t) := ⟨_, Lib.hid rfl⟩
      rw [HsK.out] at HK0 HK1 hsk ⊢
      have ha7 := fun W => run_string_add_sum (P := Tryd.prog) (w := W) sK ⟨#[59, 32]⟩ (by omega)
      have ha0 := fun W => run_string_add_sum (P := Tryd.prog) (w := W) (wordO xK) ⟨#[32]⟩ (by (try simp only [ByteArray.size_append]); omega)
      have ha1 := fun W => run_string_add_sum (P := Tryd.prog) (w := W) (wordO xK ++ ⟨#[32]⟩) xKey (by (try simp only [ByteArray.size_append]); omega)
      have hhd : ((wordO xK ++ ⟨#[32]⟩) ++ xKey).size ≤ 1100000 := by simp only [ByteArray.size_append]; omega
      obtain ⟨hd, Hhd⟩ : ∃ t, Hid ((wordO xK ++ ⟨#[32]⟩) ++ xKey = t) := ⟨_, Lib.hid rfl⟩
      rw [Hhd.out] at ha1 HH hhd
      have ha2 := fun W => run_string_add_sum (P := Tryd.prog) (w := W) t0 hd (by omega)
      have htH : (t0 ++ hd).size ≤ 12000000 := by rw [ByteArray.size_append]; omega
      obtain ⟨tH, HtH⟩ : ∃ t, Hid (t0 ++ hd = t) := ⟨_, Lib.hid rfl⟩
      rw [HtH.out] at ha2 htH
      have ha3 := fun W => run_string_add_sum (P := Tryd.prog) (w := W) ⟨#[32]⟩ xVal (by omega)
      have ha4 := fun W => run_string_add_sum (P := Tryd.prog) (w := W) tH (⟨#[32]⟩ ++ xVal) (by rw [ByteArray.size_append]; omega)
      have ha5 := fun W => run_string_add_sum (P := Tryd.prog) (w := W) ⟨#[32]⟩ tBy (by omega)
      have ha6 := fun W => run_string_add_sum (P := Tryd.prog) (w := W) tH (⟨#[32]⟩ ++ tBy) (by rw [ByteArray.size_append]; omega)
      clear hsw hsi hsz y1 y2 hB0 hB1 hst0 hsk hhd htH
      go_upto_region 5 with fail
      generalize hbx : World.alloc _ _ = wb
      have bw : Below wr.heap.size wr wb := by rw [← hbx]; exact below_new _ _
      have b : Below w.heap.size w wb := hb.trans (bw.mono hbs)
      have q0 : wr.heap.size < wb.heap.size := by rw [← hbx]; simp
      have c0 : wb.cell? ⟨wr.heap.size, 0, none⟩ = some (.int .i64 xK) := by rw [← hbx]; simp [go_sem]
      have c1 : wb.cell? ⟨wr.heap.size, 1, none⟩ = some (.string xKey) := by rw [← hbx]; simp [go_sem]
      have c2 : wb.cell? ⟨wr.heap.size, 2, none⟩ = some (.string xVal) := by rw [← hbx]; simp [go_sem]
      have c3 : wb.cell? ⟨wr.heap.size, 3, none⟩ = some (.int .i64 xBy) := by rw [← hbx]; simp [go_sem]
      clear hbx d0 d1 d2 d3
      go_upto_if 14 with fail
      go_cut [3] (fun s wx => s = .string t0 ∧ wb = wx)
      case first =>
        by_cases h0 : k = 0
        · have e0 : sK = t0 := HK0.out h0
          subst h0
          subst e0
          go_wp2_with fail
          go_meet
          exact ⟨rfl, rfl⟩
        · have h1 : 0 < (k : Int) := by omega
          rw [HK1.out h0] at ha7
          go_wp2_with fail
          go_meet
          exact ⟨rfl, rfl⟩
      case rest =>
      obtain ⟨rfl, rfl⟩ := hcut
      clear ha7 HK0 HK1
      go_upto_region 7 with fail
      go_cut [3] (fun s wx => s = .string tH ∧ Below wb.heap.size wb wx)
      case first =>
        have hKK := HKK.out
        clear HKK ha3 ha4 ha5 ha6 HH HF HtB HtH HB HG HL HS Hhd
        rcases hKK with rfl | rfl | rfl | rfl | rfl | rfl | rfl
        · skip
          refine wp_region_d 10 (fun w' => w'.cell? ⟨wr.heap.size, 0, none⟩ = some (.int .i64 1) ∧ w'.cell? ⟨wr.heap.size, 1, none⟩ = some (.string xKey)) (by kernel_rfl) ?_
          have hS : wb.drew.cell? ⟨wr.heap.size, 0, none⟩ = some (.int .i64 1) ∧ wb.drew.cell? ⟨wr.heap.size, 1, none⟩ = some (.string xKey) := ⟨c0, c1⟩
          refine d_take (f := 30) (v := ?_) 0 rfl (by kernel_rfl) (fun _ _ _ h => h) (Or.inl ⟨by rfl, ?_⟩) hS ?_
          rotate_left
          · intro wx hx
            obtain ⟨x0, x1⟩ := hx
            first | (go_simp; done) | (go_simp; with_reducible rfl)
          simp only [Act.put, List.setIfInBounds_toArray, List.set_cons_zero, List.set_cons_succ]
          refine d_take (f := 30) (v := ?_) 2 rfl (by kernel_rfl) (fun _ _ _ h => h) (Or.inl ⟨by rfl, ?_⟩) hS ?_
          rotate_left
          · intro wx hx
            obtain ⟨x0, x1⟩ := hx
            first | (go_simp; done) | (go_simp; with_reducible rfl)
          simp only [Act.put, List.setIfInBounds_toArray, List.set_cons_zero, List.set_cons_succ]
          refine d_take (f := 30) (v := ?_) 3 rfl (by kernel_rfl) (fun _ _ _ h => h) (Or.inl ⟨by rfl, ?_⟩) hS ?_
          rotate_left
          · intro wx hx
            obtain ⟨x0, x1⟩ := hx
            first | (go_simp; done) | (go_simp; with_reducible rfl)
          simp only [Act.put, List.setIfInBounds_toArray, List.set_cons_zero, List.set_cons_succ]
          refine d_take (f := 30) (v := ?_) 7 rfl (by kernel_rfl) (fun _ _ _ h => h) (Or.inl ⟨by rfl, ?_⟩) hS ?_
          rotate_left
          · intro wx hx
            obtain ⟨x0, x1⟩ := hx
            first | (go_simp; done) | (go_simp; with_reducible rfl)
          simp only [Act.put, List.setIfInBounds_toArray, List.set_cons_zero, List.set_cons_succ]
          refine d_take (f := 30) (v := ?_) 8 rfl (by kernel_rfl) (fun _ _ _ h => h) (Or.inl ⟨by rfl, ?_⟩) hS ?_
          rotate_left
          · intro wx hx
            obtain ⟨x0, x1⟩ := hx
            first | (go_simp; done) | (go_simp; with_reducible rfl)
          simp only [Act.put, List.setIfInBounds_toArray, List.set_cons_zero, List.set_cons_succ]
          refine d_step 1 (by kernel_rfl) rfl (fun K hK => ?_)
          go_simp
          go_at_call 51
          refine (l5Words_any _).mono ?_
          rintro e x1 ⟨N, rfl, hN, g1, g2, g3, g4, g5, g6, g7, k⟩
          have m1 : Below wb.heap.size wb x1 := below_after k (by (repeat (first | (with_reducible exact Below.refl _ _) | (with_reducible refine below_setCell ?_ (by first | (simp; done) | (simp; omega) | omega)) | (with_reducible refine below_alloc _ ?_) | (with_reducible refine below_drewN ?_ _) | (with_reducible refine below_drew_step ?_) | (with_reducible assumption) | (with_reducible refine below_after (by assumption) ?_))))
          refine hK.out _ _ (fun _ => ⟨cell_step m1 c0, cell_step m1 c1⟩) ?_
          clear hK K k
          try simp only [Act.put, List.setIfInBounds_toArray, List.set_cons_zero, List.set_cons_succ]
          refine d_step 4 (by kernel_rfl) rfl (fun K hK => ?_)
          go_simp
          refine hK.out _ _ (fun _ => ⟨cell_step m1 c0, cell_step m1 c1⟩) ?_
          clear hK K
          try simp only [Act.put, List.setIfInBounds_toArray, List.set_cons_zero, List.set_cons_succ]
          refine d_step 5 (by kernel_rfl) rfl (fun K hK => ?_)
          go_simp
          refine hK.out _ _ (fun _ => ⟨cell_step m1 c0, cell_step m1 c1⟩) ?_
          clear hK K
          try simp only [Act.put, List.setIfInBounds_toArray, List.set_cons_zero, List.set_cons_succ]
          refine d_step 6 (by kernel_rfl) rfl (fun K hK => ?_)
          go_simp
          refine hK.out _ _ (fun _ => ⟨cell_step m1 c0, cell_step m1 c1⟩) ?_
          clear hK K
          try simp only [Act.put, List.setIfInBounds_toArray, List.set_cons_zero, List.set_cons_succ]
          refine d_step 9 (by kernel_rfl) rfl (fun K hK => ?_)
          go_simp
          refine hK.out _ _ (fun _ => ⟨cell_step m1 c0, cell_step m1 c1⟩) ?_
          clear hK K
          try simp only [Act.put, List.setIfInBounds_toArray, List.set_cons_zero, List.set_cons_succ]
          refine d_step 10 (by kernel_rfl) rfl (fun K hK => ?_)
          go_simp
          refine hK.out _ _ (fun h => by exact absurd h (by decide)) ?_
          clear hK K
          try simp only [Act.put, List.setIfInBounds_toArray, List.set_cons_zero, List.set_cons_succ]
          refine d_step 11 (by kernel_rfl) rfl (fun K hK => ?_)
          go_simp
          refine hK.out _ _ (fun h => by exact absurd h (by decide)) ?_
          clear hK K
          try simp only [Act.put, List.setIfInBounds_toArray, List.set_cons_zero, List.set_cons_succ]
          refine d_done (by kernel_rfl) ?_ _
          try simp only [Act.put, List.setIfInBounds_toArray, List.set_cons_zero, List.set_cons_succ]
          go_wp2_with fail
          go_meet
          exact ⟨rfl, by (repeat (first | (with_reducible exact Below.refl _ _) | (with_reducible refine below_setCell ?_ (by first | (simp; done) | (simp; omega) | omega)) | (with_reducible refine below_alloc _ ?_) | (with_reducible refine below_drewN ?_ _) | (with_reducible refine below_drew_step ?_) | (with_reducible assumption) | (with_reducible refine below_after (by assumption) ?_)))⟩
        · skip
          refine wp_region_d 10 (fun w' => w'.cell? ⟨wr.heap.size, 0, none⟩ = some (.int .i64 2) ∧ w'.cell? ⟨wr.heap.size, 1, none⟩ = some (.string xKey)) (by kernel_rfl) ?_
          have hS : wb.drew.cell? ⟨wr.heap.size, 0, none⟩ = some (.int .i64 2) ∧ wb.drew.cell? ⟨wr.heap.size, 1, none⟩ = some (.string xKey) := ⟨c0, c1⟩
          refine d_take (f := 30) (v := ?_) 0 rfl (by kernel_rfl) (fun _ _ _ h => h) (Or.inl ⟨by rfl, ?_⟩) hS ?_
          rotate_left
          · intro wx hx
            obtain ⟨x0, x1⟩ := hx
            first | (go_simp; done) | (go_simp; with_reducible rfl)
          simp only [Act.put, List.setIfInBounds_toArray, List.set_cons_zero, List.set_cons_succ]
          refine d_take (f := 30) (v := ?_) 2 rfl (by kernel_rfl) (fun _ _ _ h => h) (Or.inl ⟨by rfl, ?_⟩) hS ?_
          rotate_left
          · intro wx hx
            obtain ⟨x0, x1⟩ := hx
            first | (go_simp; done) | (go_simp; with_reducible rfl)
          simp only [Act.put, List.setIfInBounds_toArray, List.set_cons_zero, List.set_cons_succ]
          refine d_take (f := 30) (v := ?_) 3 rfl (by kernel_rfl) (fun _ _ _ h => h) (Or.inl ⟨by rfl, ?_⟩) hS ?_
          rotate_left
          · intro wx hx
            obtain ⟨x0, x1⟩ := hx
            first | (go_simp; done) | (go_simp; with_reducible rfl)
          simp only [Act.put, List.setIfInBounds_toArray, List.set_cons_zero, List.set_cons_succ]
          refine d_take (f := 30) (v := ?_) 7 rfl (by kernel_rfl) (fun _ _ _ h => h) (Or.inl ⟨by rfl, ?_⟩) hS ?_
          rotate_left
          · intro wx hx
            obtain ⟨x0, x1⟩ := hx
            first | (go_simp; done) | (go_simp; with_reducible rfl)
          simp only [Act.put, List.setIfInBounds_toArray, List.set_cons_zero, List.set_cons_succ]
          refine d_take (f := 30) (v := ?_) 8 rfl (by kernel_rfl) (fun _ _ _ h => h) (Or.inl ⟨by rfl, ?_⟩) hS ?_
          rotate_left
          · intro wx hx
            obtain ⟨x0, x1⟩ := hx
            first | (go_simp; done) | (go_simp; with_reducible rfl)
          simp only [Act.put, List.setIfInBounds_toArray, List.set_cons_zero, List.set_cons_succ]
          refine d_step 1 (by kernel_rfl) rfl (fun K hK => ?_)
          go_simp
          go_at_call 51
          refine (l5Words_any _).mono ?_
          rintro e x1 ⟨N, rfl, hN, g1, g2, g3, g4, g5, g6, g7, k⟩
          have m1 : Below wb.heap.size wb x1 := below_after k (by (repeat (first | (with_reducible exact Below.refl _ _) | (with_reducible refine below_setCell ?_ (by first | (simp; done) | (simp; omega) | omega)) | (with_reducible refine below_alloc _ ?_) | (with_reducible refine below_drewN ?_ _) | (with_reducible refine below_drew_step ?_) | (with_reducible assumption) | (with_reducible refine below_after (by assumption) ?_))))
          refine hK.out _ _ (fun _ => ⟨cell_step m1 c0, cell_step m1 c1⟩) ?_
          clear hK K k
          try simp only [Act.put, List.setIfInBounds_toArray, List.set_cons_zero, List.set_cons_succ]
          refine d_step 4 (by kernel_rfl) rfl (fun K hK => ?_)
          go_simp
          refine hK.out _ _ (fun _ => ⟨cell_step m1 c0, cell_step m1 c1⟩) ?_
          clear hK K
          try simp only [Act.put, List.setIfInBounds_toArray, List.set_cons_zero, List.set_cons_succ]
          refine d_step 5 (by kernel_rfl) rfl (fun K hK => ?_)
          go_simp
          refine hK.out _ _ (fun _ => ⟨cell_step m1 c0, cell_step m1 c1⟩) ?_
          clear hK K
          try simp only [Act.put, List.setIfInBounds_toArray, List.set_cons_zero, List.set_cons_succ]
          refine d_step 6 (by kernel_rfl) rfl (fun K hK => ?_)
          go_simp
          refine hK.out _ _ (fun _ => ⟨cell_step m1 c0, cell_step m1 c1⟩) ?_
          clear hK K
          try simp only [Act.put, List.setIfInBounds_toArray, List.set_cons_zero, List.set_cons_succ]
          refine d_step 9 (by kernel_rfl) rfl (fun K hK => ?_)
          go_simp
          refine hK.out _ _ (fun _ => ⟨cell_step m1 c0, cell_step m1 c1⟩) ?_
          clear hK K
          try simp only [Act.put, List.setIfInBounds_toArray, List.set_cons_zero, List.set_cons_succ]
          refine d_step 10 (by kernel_rfl) rfl (fun K hK => ?_)
          go_simp
          refine hK.out _ _ (fun h => by exact absurd h (by decide)) ?_
          clear hK K
          try simp only [Act.put, List.setIfInBounds_toArray, List.set_cons_zero, List.set_cons_succ]
          refine d_step 11 (by kernel_rfl) rfl (fun K hK => ?_)
          go_simp
          refine hK.out _ _ (fun h => by exact absurd h (by decide)) ?_
          clear hK K
          try simp only [Act.put, List.setIfInBounds_toArray, List.set_cons_zero, List.set_cons_succ]
          refine d_done (by kernel_rfl) ?_ _
          try simp only [Act.put, List.setIfInBounds_toArray, List.set_cons_zero, List.set_cons_succ]
          go_wp2_with fail
          go_meet
          exact ⟨rfl, by (repeat (first | (with_reducible exact Below.refl _ _) | (with_reducible refine below_setCell ?_ (by first | (simp; done) | (simp; omega) | omega)) | (with_reducible refine below_alloc _ ?_) | (with_reducible refine below_drewN ?_ _) | (with_reducible refine below_drew_step ?_) | (with_reducible assumption) | (with_reducible refine below_after (by assumption) ?_)))⟩
        · skip
          refine wp_region_d 10 (fun w' => w'.cell? ⟨wr.heap.size, 0, none⟩ = some (.int .i64 3) ∧ w'.cell? ⟨wr.heap.size, 1, none⟩ = some (.string xKey)) (by kernel_rfl) ?_
          have hS : wb.drew.cell? ⟨wr.heap.size, 0, none⟩ = some (.int .i64 3) ∧ wb.drew.cell? ⟨wr.heap.size, 1, none⟩ = some (.string xKey) := ⟨c0, c1⟩
          refine d_take (f := 30) (v := ?_) 0 rfl (by kernel_rfl) (fun _ _ _ h => h) (Or.inl ⟨by rfl, ?_⟩) hS ?_
          rotate_left
          · intro wx hx
            obtain ⟨x0, x1⟩ := hx
            first | (go_simp; done) | (go_simp; with_reducible rfl)
          simp only [Act.put, List.setIfInBounds_toArray, List.set_cons_zero, List.set_cons_succ]
          refine d_take (f := 30) (v := ?_) 2 rfl (by kernel_rfl) (fun _ _ _ h => h) (Or.inl ⟨by rfl, ?_⟩) hS ?_
          rotate_left
          · intro wx hx
            obtain ⟨x0, x1⟩ := hx
            first | (go_simp; done) | (go_simp; with_reducible rfl)
          simp only [Act.put, List.setIfInBounds_toArray, List.set_cons_zero, List.set_cons_succ]
          refine d_take (f := 30) (v := ?_) 3 rfl (by kernel_rfl) (fun _ _ _ h => h) (Or.inl ⟨by rfl, ?_⟩) hS ?_
          rotate_left
          · intro wx hx
            obtain ⟨x0, x1⟩ := hx
            first | (go_simp; done) | (go_simp; with_reducible rfl)
          simp only [Act.put, List.setIfInBounds_toArray, List.set_cons_zero, List.set_cons_succ]
          refine d_take (f := 30) (v := ?_) 7 rfl (by kernel_rfl) (fun _ _ _ h => h) (Or.inl ⟨by rfl, ?_⟩) hS ?_
          rotate_left
          · intro wx hx
            obtain ⟨x0, x1⟩ := hx
            first | (go_simp; done) | (go_simp; with_reducible rfl)
          simp only [Act.put, List.setIfInBounds_toArray, List.set_cons_zero, List.set_cons_succ]
          refine d_take (f := 30) (v := ?_) 8 rfl (by kernel_rfl) (fun _ _ _ h => h) (Or.inl ⟨by rfl, ?_⟩) hS ?_
          rotate_left
          · intro wx hx
            obtain ⟨x0, x1⟩ := hx
            first | (go_simp; done) | (go_simp; with_reducible rfl)
          simp only [Act.put, List.setIfInBounds_toArray, List.set_cons_zero, List.set_cons_succ]
          refine d_step 1 (by kernel_rfl) rfl (fun K hK => ?_)
          go_simp
          go_at_call 51
          refine (l5Words_any _).mono ?_
          rintro e x1 ⟨N, rfl, hN, g1, g2, g3, g4, g5, g6, g7, k⟩
          have m1 : Below wb.heap.size wb x1 := below_after k (by (repeat (first | (with_reducible exact Below.refl _ _) | (with_reducible refine below_setCell ?_ (by first | (simp; done) | (simp; omega) | omega)) | (with_reducible refine below_alloc _ ?_) | (with_reducible refine below_drewN ?_ _) | (with_reducible refine below_drew_step ?_) | (with_reducible assumption) | (with_reducible refine below_after (by assumption) ?_))))
          refine hK.out _ _ (fun _ => ⟨cell_step m1 c0, cell_step m1 c1⟩) ?_
          clear hK K k
          try simp only [Act.put, List.setIfInBounds_toArray, List.set_cons_zero, List.set_cons_succ]
          refine d_step 4 (by kernel_rfl) rfl (fun K hK => ?_)
          go_simp
          refine hK.out _ _ (fun _ => ⟨cell_step m1 c0, cell_step m1 c1⟩) ?_
          clear hK K
          try simp only [Act.put, List.setIfInBounds_toArray, List.set_cons_zero, List.set_cons_succ]
          refine d_step 5 (by kernel_rfl) rfl (fun K hK => ?_)
          go_simp
          refine hK.out _ _ (fun _ => ⟨cell_step m1 c0, cell_step m1 c1⟩) ?_
          clear hK K
          try simp only [Act.put, List.setIfInBounds_toArray, List.set_cons_zero, List.set_cons_succ]
          refine d_step 6 (by kernel_rfl) rfl (fun K hK => ?_)
          go_simp
          refine hK.out _ _ (fun _ => ⟨cell_step m1 c0, cell_step m1 c1⟩) ?_
          clear hK K
          try simp only [Act.put, List.setIfInBounds_toArray, List.set_cons_zero, List.set_cons_succ]
          refine d_step 9 (by kernel_rfl) rfl (fun K hK => ?_)
          go_simp
          refine hK.out _ _ (fun _ => ⟨cell_step m1 c0, cell_step m1 c1⟩) ?_
          clear hK K
          try simp only [Act.put, List.setIfInBounds_toArray, List.set_cons_zero, List.set_cons_succ]
          refine d_step 10 (by kernel_rfl) rfl (fun K hK => ?_)
          go_simp
          refine hK.out _ _ (fun h => by exact absurd h (by decide)) ?_
          clear hK K
          try simp only [Act.put, List.setIfInBounds_toArray, List.set_cons_zero, List.set_cons_succ]
          refine d_step 11 (by kernel_rfl) rfl (fun K hK => ?_)
          go_simp
          refine hK.out _ _ (fun h => by exact absurd h (by decide)) ?_
          clear hK K
          try simp only [Act.put, List.setIfInBounds_toArray, List.set_cons_zero, List.set_cons_succ]
          refine d_done (by kernel_rfl) ?_ _
          try simp only [Act.put, List.setIfInBounds_toArray, List.set_cons_zero, List.set_cons_succ]
          go_wp2_with fail
          go_meet
          exact ⟨rfl, by (repeat (first | (with_reducible exact Below.refl _ _) | (with_reducible refine below_setCell ?_ (by first | (simp; done) | (simp; omega) | omega)) | (with_reducible refine below_alloc _ ?_) | (with_reducible refine below_drewN ?_ _) | (with_reducible refine below_drew_step ?_) | (with_reducible assumption) | (with_reducible refine below_after (by assumption) ?_)))⟩
        · skip
          refine wp_region_d 10 (fun w' => w'.cell? ⟨wr.heap.size, 0, none⟩ = some (.int .i64 4) ∧ w'.cell? ⟨wr.heap.size, 1, none⟩ = some (.string xKey)) (by kernel_rfl) ?_
          have hS : wb.drew.cell? ⟨wr.heap.size, 0, none⟩ = some (.int .i64 4) ∧ wb.drew.cell? ⟨wr.heap.size, 1, none⟩ = some (.string xKey) := ⟨c0, c1⟩
          refine d_take (f := 30) (v := ?_) 0 rfl (by kernel_rfl) (fun _ _ _ h => h) (Or.inl ⟨by rfl, ?_⟩) hS ?_
          rotate_left
          · intro wx hx
            obtain ⟨x0, x1⟩ := hx
            first | (go_simp; done) | (go_simp; with_reducible rfl)
          simp only [Act.put, List.setIfInBounds_toArray, List.set_cons_zero, List.set_cons_succ]
          refine d_take (f := 30) (v := ?_) 2 rfl (by kernel_rfl) (fun _ _ _ h => h) (Or.inl ⟨by rfl, ?_⟩) hS ?_
          rotate_left
          · intro wx hx
            obtain ⟨x0, x1⟩ := hx
            first | (go_simp; done) | (go_simp; with_reducible rfl)
          simp only [Act.put, List.setIfInBounds_toArray, List.set_cons_zero, List.set_cons_succ]
          refine d_take (f := 30) (v := ?_) 3 rfl (by kernel_rfl) (fun _ _ _ h => h) (Or.inl ⟨by rfl, ?_⟩) hS ?_
          rotate_left
          · intro wx hx
            obtain ⟨x0, x1⟩ := hx
            first | (go_simp; done) | (go_simp; with_reducible rfl)
          simp only [Act.put, List.setIfInBounds_toArray, List.set_cons_zero, List.set_cons_succ]
          refine d_take (f := 30) (v := ?_) 7 rfl (by kernel_rfl) (fun _ _ _ h => h) (Or.inl ⟨by rfl, ?_⟩) hS ?_
          rotate_left
          · intro wx hx
            obtain ⟨x0, x1⟩ := hx
            first | (go_simp; done) | (go_simp; with_reducible rfl)
          simp only [Act.put, List.setIfInBounds_toArray, List.set_cons_zero, List.set_cons_succ]
          refine d_take (f := 30) (v := ?_) 8 rfl (by kernel_rfl) (fun _ _ _ h => h) (Or.inl ⟨by rfl, ?_⟩) hS ?_
          rotate_left
          · intro wx hx
            obtain ⟨x0, x1⟩ := hx
            first | (go_simp; done) | (go_simp; with_reducible rfl)
          simp only [Act.put, List.setIfInBounds_toArray, List.set_cons_zero, List.set_cons_succ]
          refine d_step 1 (by kernel_rfl) rfl (fun K hK => ?_)
          go_simp
          go_at_call 51
          refine (l5Words_any _).mono ?_
          rintro e x1 ⟨N, rfl, hN, g1, g2, g3, g4, g5, g6, g7, k⟩
          have m1 : Below wb.heap.size wb x1 := below_after k (by (repeat (first | (with_reducible exact Below.refl _ _) | (with_reducible refine below_setCell ?_ (by first | (simp; done) | (simp; omega) | omega)) | (with_reducible refine below_alloc _ ?_) | (with_reducible refine below_drewN ?_ _) | (with_reducible refine below_drew_step ?_) | (with_reducible assumption) | (with_reducible refine below_after (by assumption) ?_))))
          refine hK.out _ _ (fun _ => ⟨cell_step m1 c0, cell_step m1 c1⟩) ?_
          clear hK K k
          try simp only [Act.put, List.setIfInBounds_toArray, List.set_cons_zero, List.set_cons_succ]
          refine d_step 4 (by kernel_rfl) rfl (fun K hK => ?_)
          go_simp
          refine hK.out _ _ (fun _ => ⟨cell_step m1 c0, cell_step m1 c1⟩) ?_
          clear hK K
          try simp only [Act.put, List.setIfInBounds_toArray, List.set_cons_zero, List.set_cons_succ]
          refine d_step 5 (by kernel_rfl) rfl (fun K hK => ?_)
          go_simp
          refine hK.out _ _ (fun _ => ⟨cell_step m1 c0, cell_step m1 c1⟩) ?_
          clear hK K
          try simp only [Act.put, List.setIfInBounds_toArray, List.set_cons_zero, List.set_cons_succ]
          refine d_step 6 (by kernel_rfl) rfl (fun K hK => ?_)
          go_simp
          refine hK.out _ _ (fun _ => ⟨cell_step m1 c0, cell_step m1 c1⟩) ?_
          clear hK K
          try simp only [Act.put, List.setIfInBounds_toArray, List.set_cons_zero, List.set_cons_succ]
          refine d_step 9 (by kernel_rfl) rfl (fun K hK => ?_)
          go_simp
          refine hK.out _ _ (fun _ => ⟨cell_step m1 c0, cell_step m1 c1⟩) ?_
          clear hK K
          try simp only [Act.put, List.setIfInBounds_toArray, List.set_cons_zero, List.set_cons_succ]
          refine d_step 10 (by kernel_rfl) rfl (fun K hK => ?_)
          go_simp
          refine hK.out _ _ (fun h => by exact absurd h (by decide)) ?_
          clear hK K
          try simp only [Act.put, List.setIfInBounds_toArray, List.set_cons_zero, List.set_cons_succ]
          refine d_step 11 (by kernel_rfl) rfl (fun K hK => ?_)
          go_simp
          refine hK.out _ _ (fun h => by exact absurd h (by decide)) ?_
          clear hK K
          try simp only [Act.put, List.setIfInBounds_toArray, List.set_cons_zero, List.set_cons_succ]
          refine d_done (by kernel_rfl) ?_ _
          try simp only [Act.put, List.setIfInBounds_toArray, List.set_cons_zero, List.set_cons_succ]
          go_wp2_with fail
          go_meet
          exact ⟨rfl, by (repeat (first | (with_reducible exact Below.refl _ _) | (with_reducible refine below_setCell ?_ (by first | (simp; done) | (simp; omega) | omega)) | (with_reducible refine below_alloc _ ?_) | (with_reducible refine below_drewN ?_ _) | (with_reducible refine below_drew_step ?_) | (with_reducible assumption) | (with_reducible refine below_after (by assumption) ?_)))⟩
        · skip
          refine wp_region_d 10 (fun w' => w'.cell? ⟨wr.heap.size, 0, none⟩ = some (.int .i64 5) ∧ w'.cell? ⟨wr.heap.size, 1, none⟩ = some (.string xKey)) (by kernel_rfl) ?_
          have hS : wb.drew.cell? ⟨wr.heap.size, 0, none⟩ = some (.int .i64 5) ∧ wb.drew.cell? ⟨wr.heap.size, 1, none⟩ = some (.string xKey) := ⟨c0, c1⟩
          refine d_take (f := 30) (v := ?_) 0 rfl (by kernel_rfl) (fun _ _ _ h => h) (Or.inl ⟨by rfl, ?_⟩) hS ?_
          rotate_left
          · intro wx hx
            obtain ⟨x0, x1⟩ := hx
            first | (go_simp; done) | (go_simp; with_reducible rfl)
          simp only [Act.put, List.setIfInBounds_toArray, List.set_cons_zero, List.set_cons_succ]
          refine d_take (f := 30) (v := ?_) 2 rfl (by kernel_rfl) (fun _ _ _ h => h) (Or.inl ⟨by rfl, ?_⟩) hS ?_
          rotate_left
          · intro wx hx
            obtain ⟨x0, x1⟩ := hx
            first | (go_simp; done) | (go_simp; with_reducible rfl)
          simp only [Act.put, List.setIfInBounds_toArray, List.set_cons_zero, List.set_cons_succ]
          refine d_take (f := 30) (v := ?_) 3 rfl (by kernel_rfl) (fun _ _ _ h => h) (Or.inl ⟨by rfl, ?_⟩) hS ?_
          rotate_left
          · intro wx hx
            obtain ⟨x0, x1⟩ := hx
            first | (go_simp; done) | (go_simp; with_reducible rfl)
          simp only [Act.put, List.setIfInBounds_toArray, List.set_cons_zero, List.set_cons_succ]
          refine d_take (f := 30) (v := ?_) 7 rfl (by kernel_rfl) (fun _ _ _ h => h) (Or.inl ⟨by rfl, ?_⟩) hS ?_
          rotate_left
          · intro wx hx
            obtain ⟨x0, x1⟩ := hx
            first | (go_simp; done) | (go_simp; with_reducible rfl)
          simp only [Act.put, List.setIfInBounds_toArray, List.set_cons_zero, List.set_cons_succ]
          refine d_take (f := 30) (v := ?_) 8 rfl (by kernel_rfl) (fun _ _ _ h => h) (Or.inl ⟨by rfl, ?_⟩) hS ?_
          rotate_left
          · intro wx hx
            obtain ⟨x0, x1⟩ := hx
            first | (go_simp; done) | (go_simp; with_reducible rfl)
          simp only [Act.put, List.setIfInBounds_toArray, List.set_cons_zero, List.set_cons_succ]
          refine d_step 1 (by kernel_rfl) rfl (fun K hK => ?_)
          go_simp
          go_at_call 51
          refine (l5Words_any _).mono ?_
          rintro e x1 ⟨N, rfl, hN, g1, g2, g3, g4, g5, g6, g7, k⟩
          have m1 : Below wb.heap.size wb x1 := below_after k (by (repeat (first | (with_reducible exact Below.refl _ _) | (with_reducible refine below_setCell ?_ (by first | (simp; done) | (simp; omega) | omega)) | (with_reducible refine below_alloc _ ?_) | (with_reducible refine below_drewN ?_ _) | (with_reducible refine below_drew_step ?_) | (with_reducible assumption) | (with_reducible refine below_after (by assumption) ?_))))
          refine hK.out _ _ (fun _ => ⟨cell_step m1 c0, cell_step m1 c1⟩) ?_
          clear hK K k
          try simp only [Act.put, List.setIfInBounds_toArray, List.set_cons_zero, List.set_cons_succ]
          refine d_step 4 (by kernel_rfl) rfl (fun K hK => ?_)
          go_simp
          refine hK.out _ _ (fun _ => ⟨cell_step m1 c0, cell_step m1 c1⟩) ?_
          clear hK K
          try simp only [Act.put, List.setIfInBounds_toArray, List.set_cons_zero, List.set_cons_succ]
          refine d_step 5 (by kernel_rfl) rfl (fun K hK => ?_)
          go_simp
          refine hK.out _ _ (fun _ => ⟨cell_step m1 c0, cell_step m1 c1⟩) ?_
          clear hK K
          try simp only [Act.put, List.setIfInBounds_toArray, List.set_cons_zero, List.set_cons_succ]
          refine d_step 6 (by kernel_rfl) rfl (fun K hK => ?_)
          go_simp
          refine hK.out _ _ (fun _ => ⟨cell_step m1 c0, cell_step m1 c1⟩) ?_
          clear hK K
          try simp only [Act.put, List.setIfInBounds_toArray, List.set_cons_zero, List.set_cons_succ]
          refine d_step 9 (by kernel_rfl) rfl (fun K hK => ?_)
          go_simp
          refine hK.out _ _ (fun _ => ⟨cell_step m1 c0, cell_step m1 c1⟩) ?_
          clear hK K
          try simp only [Act.put, List.setIfInBounds_toArray, List.set_cons_zero, List.set_cons_succ]
          refine d_step 10 (by kernel_rfl) rfl (fun K hK => ?_)
          go_simp
          refine hK.out _ _ (fun h => by exact absurd h (by decide)) ?_
          clear hK K
          try simp only [Act.put, List.setIfInBounds_toArray, List.set_cons_zero, List.set_cons_succ]
          refine d_step 11 (by kernel_rfl) rfl (fun K hK => ?_)
          go_simp
          refine hK.out _ _ (fun h => by exact absurd h (by decide)) ?_
          clear hK K
          try simp only [Act.put, List.setIfInBounds_toArray, List.set_cons_zero, List.set_cons_succ]
          refine d_done (by kernel_rfl) ?_ _
          try simp only [Act.put, List.setIfInBounds_toArray, List.set_cons_zero, List.set_cons_succ]
          go_wp2_with fail
          go_meet
          exact ⟨rfl, by (repeat (first | (with_reducible exact Below.refl _ _) | (with_reducible refine below_setCell ?_ (by first | (simp; done) | (simp; omega) | omega)) | (with_reducible refine below_alloc _ ?_) | (with_reducible refine below_drewN ?_ _) | (with_reducible refine below_drew_step ?_) | (with_reducible assumption) | (with_reducible refine below_after (by assumption) ?_)))⟩
        · skip
          refine wp_region_d 10 (fun w' => w'.cell? ⟨wr.heap.size, 0, none⟩ = some (.int .i64 6) ∧ w'.cell? ⟨wr.heap.size, 1, none⟩ = some (.string xKey)) (by kernel_rfl) ?_
          have hS : wb.drew.cell? ⟨wr.heap.size, 0, none⟩ = some (.int .i64 6) ∧ wb.drew.cell? ⟨wr.heap.size, 1, none⟩ = some (.string xKey) := ⟨c0, c1⟩
          refine d_take (f := 30) (v := ?_) 0 rfl (by kernel_rfl) (fun _ _ _ h => h) (Or.inl ⟨by rfl, ?_⟩) hS ?_
          rotate_left
          · intro wx hx
            obtain ⟨x0, x1⟩ := hx
            first | (go_simp; done) | (go_simp; with_reducible rfl)
          simp only [Act.put, List.setIfInBounds_toArray, List.set_cons_zero, List.set_cons_succ]
          refine d_take (f := 30) (v := ?_) 2 rfl (by kernel_rfl) (fun _ _ _ h => h) (Or.inl ⟨by rfl, ?_⟩) hS ?_
          rotate_left
          · intro wx hx
            obtain ⟨x0, x1⟩ := hx
            first | (go_simp; done) | (go_simp; with_reducible rfl)
          simp only [Act.put, List.setIfInBounds_toArray, List.set_cons_zero, List.set_cons_succ]
          refine d_take (f := 30) (v := ?_) 3 rfl (by kernel_rfl) (fun _ _ _ h => h) (Or.inl ⟨by rfl, ?_⟩) hS ?_
          rotate_left
          · intro wx hx
            obtain ⟨x0, x1⟩ := hx
            first | (go_simp; done) | (go_simp; with_reducible rfl)
          simp only [Act.put, List.setIfInBounds_toArray, List.set_cons_zero, List.set_cons_succ]
          refine d_take (f := 30) (v := ?_) 7 rfl (by kernel_rfl) (fun _ _ _ h => h) (Or.inl ⟨by rfl, ?_⟩) hS ?_
          rotate_left
          · intro wx hx
            obtain ⟨x0, x1⟩ := hx
            first | (go_simp; done) | (go_simp; with_reducible rfl)
          simp only [Act.put, List.setIfInBounds_toArray, List.set_cons_zero, List.set_cons_succ]
          refine d_take (f := 30) (v := ?_) 8 rfl (by kernel_rfl) (fun _ _ _ h => h) (Or.inl ⟨by rfl, ?_⟩) hS ?_
          rotate_left
          · intro wx hx
            obtain ⟨x0, x1⟩ := hx
            first | (go_simp; done) | (go_simp; with_reducible rfl)
          simp only [Act.put, List.setIfInBounds_toArray, List.set_cons_zero, List.set_cons_succ]
          refine d_step 1 (by kernel_rfl) rfl (fun K hK => ?_)
          go_simp
          go_at_call 51
          refine (l5Words_any _).mono ?_
          rintro e x1 ⟨N, rfl, hN, g1, g2, g3, g4, g5, g6, g7, k⟩
          have m1 : Below wb.heap.size wb x1 := below_after k (by (repeat (first | (with_reducible exact Below.refl _ _) | (with_reducible refine below_setCell ?_ (by first | (simp; done) | (simp; omega) | omega)) | (with_reducible refine below_alloc _ ?_) | (with_reducible refine below_drewN ?_ _) | (with_reducible refine below_drew_step ?_) | (with_reducible assumption) | (with_reducible refine below_after (by assumption) ?_))))
          refine hK.out _ _ (fun _ => ⟨cell_step m1 c0, cell_step m1 c1⟩) ?_
          clear hK K k
          try simp only [Act.put, List.setIfInBounds_toArray, List.set_cons_zero, List.set_cons_succ]
          refine d_step 4 (by kernel_rfl) rfl (fun K hK => ?_)
          go_simp
          refine hK.out _ _ (fun _ => ⟨cell_step m1 c0, cell_step m1 c1⟩) ?_
          clear hK K
          try simp only [Act.put, List.setIfInBounds_toArray, List.set_cons_zero, List.set_cons_succ]
          refine d_step 5 (by kernel_rfl) rfl (fun K hK => ?_)
          go_simp
          refine hK.out _ _ (fun _ => ⟨cell_step m1 c0, cell_step m1 c1⟩) ?_
          clear hK K
          try simp only [Act.put, List.setIfInBounds_toArray, List.set_cons_zero, List.set_cons_succ]
          refine d_step 6 (by kernel_rfl) rfl (fun K hK => ?_)
          go_simp
          refine hK.out _ _ (fun _ => ⟨cell_step m1 c0, cell_step m1 c1⟩) ?_
          clear hK K
          try simp only [Act.put, List.setIfInBounds_toArray, List.set_cons_zero, List.set_cons_succ]
          refine d_step 9 (by kernel_rfl) rfl (fun K hK => ?_)
          go_simp
          refine hK.out _ _ (fun _ => ⟨cell_step m1 c0, cell_step m1 c1⟩) ?_
          clear hK K
          try simp only [Act.put, List.setIfInBounds_toArray, List.set_cons_zero, List.set_cons_succ]
          refine d_step 10 (by kernel_rfl) rfl (fun K hK => ?_)
          go_simp
          refine hK.out _ _ (fun h => by exact absurd h (by decide)) ?_
          clear hK K
          try simp only [Act.put, List.setIfInBounds_toArray, List.set_cons_zero, List.set_cons_succ]
          refine d_step 11 (by kernel_rfl) rfl (fun K hK => ?_)
          go_simp
          refine hK.out _ _ (fun h => by exact absurd h (by decide)) ?_
          clear hK K
          try simp only [Act.put, List.setIfInBounds_toArray, List.set_cons_zero, List.set_cons_succ]
          refine d_done (by kernel_rfl) ?_ _
          try simp only [Act.put, List.setIfInBounds_toArray, List.set_cons_zero, List.set_cons_succ]
          go_wp2_with fail
          go_meet
          exact ⟨rfl, by (repeat (first | (with_reducible exact Below.refl _ _) | (with_reducible refine below_setCell ?_ (by first | (simp; done) | (simp; omega) | omega)) | (with_reducible refine below_alloc _ ?_) | (with_reducible refine below_drewN ?_ _) | (with_reducible refine below_drew_step ?_) | (with_reducible assumption) | (with_reducible refine below_after (by assumption) ?_)))⟩
        · skip
          refine wp_region_d 10 (fun w' => w'.cell? ⟨wr.heap.size, 0, none⟩ = some (.int .i64 7) ∧ w'.cell? ⟨wr.heap.size, 1, none⟩ = some (.string xKey)) (by kernel_rfl) ?_
          have hS : wb.drew.cell? ⟨wr.heap.size, 0, none⟩ = some (.int .i64 7) ∧ wb.drew.cell? ⟨wr.heap.size, 1, none⟩ = some (.string xKey) := ⟨c0, c1⟩
          refine d_take (f := 30) (v := ?_) 0 rfl (by kernel_rfl) (fun _ _ _ h => h) (Or.inl ⟨by rfl, ?_⟩) hS ?_
          rotate_left
          · intro wx hx
            obtain ⟨x0, x1⟩ := hx
            first | (go_simp; done) | (go_simp; with_reducible rfl)
          simp only [Act.put, List.setIfInBounds_toArray, List.set_cons_zero, List.set_cons_succ]
          refine d_take (f := 30) (v := ?_) 2 rfl (by kernel_rfl) (fun _ _ _ h => h) (Or.inl ⟨by rfl, ?_⟩) hS ?_
          rotate_left
          · intro wx hx
            obtain ⟨x0, x1⟩ := hx
            first | (go_simp; done) | (go_simp; with_reducible rfl)
          simp only [Act.put, List.setIfInBounds_toArray, List.set_cons_zero, List.set_cons_succ]
          refine d_take (f := 30) (v := ?_) 3 rfl (by kernel_rfl) (fun _ _ _ h => h) (Or.inl ⟨by rfl, ?_⟩) hS ?_
          rotate_left
          · intro wx hx
            obtain ⟨x0, x1⟩ := hx
            first | (go_simp; done) | (go_simp; with_reducible rfl)
          simp only [Act.put, List.setIfInBounds_toArray, List.set_cons_zero, List.set_cons_succ]
          refine d_take (f := 30) (v := ?_) 7 rfl (by kernel_rfl) (fun _ _ _ h => h) (Or.inl ⟨by rfl, ?_⟩) hS ?_
          rotate_left
          · intro wx hx
            obtain ⟨x0, x1⟩ := hx
            first | (go_simp; done) | (go_simp; with_reducible rfl)
          simp only [Act.put, List.setIfInBounds_toArray, List.set_cons_zero, List.set_cons_succ]
          refine d_take (f := 30) (v := ?_) 8 rfl (by kernel_rfl) (fun _ _ _ h => h) (Or.inl ⟨by rfl, ?_⟩) hS ?_
          rotate_left
          · intro wx hx
            obtain ⟨x0, x1⟩ := hx
            first | (go_simp; done) | (go_simp; with_reducible rfl)
          simp only [Act.put, List.setIfInBounds_toArray, List.set_cons_zero, List.set_cons_succ]
          refine d_step 1 (by kernel_rfl) rfl (fun K hK => ?_)
          go_simp
          go_at_call 51
          refine (l5Words_any _).mono ?_
          rintro e x1 ⟨N, rfl, hN, g1, g2, g3, g4, g5, g6, g7, k⟩
          have m1 : Below wb.heap.size wb x1 := below_after k (by (repeat (first | (with_reducible exact Below.refl _ _) | (with_reducible refine below_setCell ?_ (by first | (simp; done) | (simp; omega) | omega)) | (with_reducible refine below_alloc _ ?_) | (with_reducible refine below_drewN ?_ _) | (with_reducible refine below_drew_step ?_) | (with_reducible assumption) | (with_reducible refine below_after (by assumption) ?_))))
          refine hK.out _ _ (fun _ => ⟨cell_step m1 c0, cell_step m1 c1⟩) ?_
          clear hK K k
          try simp only [Act.put, List.setIfInBounds_toArray, List.set_cons_zero, List.set_cons_succ]
          refine d_step 4 (by kernel_rfl) rfl (fun K hK => ?_)
          go_simp
          refine hK.out _ _ (fun _ => ⟨cell_step m1 c0, cell_step m1 c1⟩) ?_
          clear hK K
          try simp only [Act.put, List.setIfInBounds_toArray, List.set_cons_zero, List.set_cons_succ]
          refine d_step 5 (by kernel_rfl) rfl (fun K hK => ?_)
          go_simp
          refine hK.out _ _ (fun _ => ⟨cell_step m1 c0, cell_step m1 c1⟩) ?_
          clear hK K
          try simp only [Act.put, List.setIfInBounds_toArray, List.set_cons_zero, List.set_cons_succ]
          refine d_step 6 (by kernel_rfl) rfl (fun K hK => ?_)
          go_simp
          refine hK.out _ _ (fun _ => ⟨cell_step m1 c0, cell_step m1 c1⟩) ?_
          clear hK K
          try simp only [Act.put, List.setIfInBounds_toArray, List.set_cons_zero, List.set_cons_succ]
          refine d_step 9 (by kernel_rfl) rfl (fun K hK => ?_)
          go_simp
          refine hK.out _ _ (fun _ => ⟨cell_step m1 c0, cell_step m1 c1⟩) ?_
          clear hK K
          try simp only [Act.put, List.setIfInBounds_toArray, List.set_cons_zero, List.set_cons_succ]
          refine d_step 10 (by kernel_rfl) rfl (fun K hK => ?_)
          go_simp
          refine hK.out _ _ (fun h => by exact absurd h (by decide)) ?_
          clear hK K
          try simp only [Act.put, List.setIfInBounds_toArray, List.set_cons_zero, List.set_cons_succ]
          refine d_step 11 (by kernel_rfl) rfl (fun K hK => ?_)
          go_simp
          refine hK.out _ _ (fun h => by exact absurd h (by decide)) ?_
          clear hK K
          try simp only [Act.put, List.setIfInBounds_toArray, List.set_cons_zero, List.set_cons_succ]
          refine d_done (by kernel_rfl) ?_ _
          try simp only [Act.put, List.setIfInBounds_toArray, List.set_cons_zero, List.set_cons_succ]
          go_wp2_with fail
          go_meet
          exact ⟨rfl, by (repeat (first | (with_reducible exact Below.refl _ _) | (with_reducible refine below_setCell ?_ (by first | (simp; done) | (simp; omega) | omega)) | (with_reducible refine below_alloc _ ?_) | (with_reducible refine below_drewN ?_ _) | (with_reducible refine below_drew_step ?_) | (with_reducible assumption) | (with_reducible refine below_after (by assumption) ?_)))⟩
      case rest =>
        obtain ⟨rfl, m⟩ := hcut
        replace b := b.trans (m.mono b.size)
        replace bw := bw.trans (m.mono bw.size)
        replace c0 := cell_step m c0
        replace c1 := cell_step m c1
        replace c2 := cell_step m c2
        replace c3 := cell_step m c3
        replace q0 := Nat.lt_of_lt_of_le q0 m.size
        clear m ha0 ha1 ha2
        rcases kinds xK with hk | hk | hk | hk
        rotate_right
        · have := HKK.out; omega
        clear HKK
        · skip
          have Hf : Hid (opsS (l.take (k + 1)) = tH ++ (⟨#[32]⟩ ++ xVal)) := Lib.hid (by rw [HF.out, opT_V (by exact hk), HH.out, ← ByteArray.append_assoc, HtH.out])
          clear HF HH
          rcases hk with rfl | rfl
          all_goals
            go_wp2
            go_roundw
            case rel => exact ⟨k + 1, by go_num, by omega, by rw [Hf.out], by (repeat (first | (with_reducible exact Below.refl _ _) | (with_reducible refine below_setCell ?_ (by first | (simp; done) | (simp; omega) | omega)) | (with_reducible refine below_alloc _ ?_) | (with_reducible refine below_drewN ?_ _) | (with_reducible assumption) | (with_reducible refine below_after (by assumption) ?_)))⟩
            case measure => simp [intOf]; omega
        · skip
          have Hf : Hid (opsS (l.take (k + 1)) = tH ++ (⟨#[32]⟩ ++ tBy)) := Lib.hid (by rw [HF.out, opT_B (by exact hk), HH.out, HtB.out, ← ByteArray.append_assoc, HtH.out])
          clear HF HH
          rcases hk with rfl | rfl
          all_goals
            go_wp2_with fail
            refine (HB.out _).mono ?_
            rintro e u3 ⟨rfl, k3⟩
            have b3 : Below w.heap.size w u3 := below_after k3 (by (repeat (first | (with_reducible exact Below.refl _ _) | (with_reducible refine below_setCell ?_ (by first | (simp; done) | (simp; omega) | omega)) | (with_reducible refine below_alloc _ ?_) | (with_reducible refine below_drewN ?_ _) | (with_reducible assumption) | (with_reducible refine below_after (by assumption) ?_))))
            go_wp2
            go_roundw
            case rel => exact ⟨k + 1, by go_num, by omega, by rw [Hf.out], by (repeat (first | (with_reducible exact Below.refl _ _) | (with_reducible refine below_setCell ?_ (by first | (simp; done) | (simp; omega) | omega)) | (with_reducible refine below_alloc _ ?_) | (with_reducible refine below_drewN ?_ _) | (with_reducible assumption) | (with_reducible refine below_after (by assumption) ?_)))⟩
            case measure => simp [intOf]; omega
        · skip
          have Hf : Hid (opsS (l.take (k + 1)) = tH) := Lib.hid (by rw [HF.out, opT_P (by exact hk), HH.out, HtH.out])
          clear HF HH
          rcases hk with rfl | rfl | rfl
          all_goals
            go_wp2
            go_roundw
            case rel => exact ⟨k + 1, by go_num, by omega, by rw [Hf.out], by (repeat (first | (with_reducible exact Below.refl _ _) | (with_reducible refine below_setCell ?_ (by first | (simp; done) | (simp; omega) | omega)) | (with_reducible refine below_alloc _ ?_) | (with_reducible refine below_drewN ?_ _) | (with_reducible assumption) | (with_reducible refine below_after (by assumption) ?_)))⟩
            case measure => simp [intOf]; omega
    · have hlt2 : (n : Int) ≤ (k : Int) := by omega
      obtain rfl : k = n := by omega
      have hf : l.take k = l := List.take_of_length_le (by have := Hn.out; omega)
      rw [hf]
      clear hf
      go_wp2
      go_ret
      exact ⟨rfl, hb⟩

end Go.Proofs.YtpiheobpobclgaaDoor
