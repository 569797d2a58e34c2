/- spec.l4Text. Printed by mkrect.py. -/
import Derived.Test.YtpiheobpobclgaaGreatDoorRecT2
namespace Go.Proofs.YtpiheobpobclgaaGreatDoor
open Go.RowKit

set_option maxRecDepth 100000 in
set_option maxHeartbeats 3200000 in
/-- spec.l4Text, l4Text_1 -/
theorem l4Text_1 (T Ti L : Nat) (R : List ByteArray) (Wr : List WriteD) (b1 : T ≤ 100000) (b2 : Ti ≤ 100000) (b3 : L ≤ 100000) (hTi : 0 < Ti)
    (w : World) (pr pw : Option Addr) (cr cw : Nat) (Y : Bool) (hR : costStringS R ≤ 1048576) (hW : costWriteS Wr ≤ 1048576) (rR : Rd Cod.str w (.slice pr R.length cr) R) (rW : Rd Cod.write w (.slice pw Wr.length cw) Wr) :
    Calls Tryz.prog 14 #[.agg #[.int .i64 1, .int .i64 (T : Int), .int .i64 (Ti : Int), .int .i64 (L : Int), .slice pr R.length cr, .slice pw Wr.length cw, .bool Y]] w fun e w' => e = .returned (.string (recT 1 T Ti L R Wr)) ∧ Below w.heap.size w w' := by
  have sT := numT_le (n := T) (by omega)
  have sTi := numT_le (n := Ti) (by omega)
  have sL := numT_le (n := L) (by omega)
  have HT := Lib.hid (fun W (k : Below w.heap.size w W) => l1Num_any T (by omega) W)
  have HTi := Lib.hid (fun W (k : Below w.heap.size w W) => l1Num_any Ti (by omega) W)
  have HL := Lib.hid (fun W (k : Below w.heap.size w W) => l1Num_any L (by omega) W)
  have Hh : Hid (headT 1 T Ti = ((wordB 1 ++ (⟨#[32]⟩ ++ numT T)) ++ (⟨#[32, 64]⟩ ++ numT Ti))) := Lib.hid (by simp [headT, hTi])
  have He : Hid (recT 1 T Ti L R Wr = wrsT (rdsT (((wordB 1 ++ (⟨#[32]⟩ ++ numT T)) ++ (⟨#[32, 64]⟩ ++ numT Ti)) ++ (⟨#[32, 62]⟩ ++ numT L)) R) Wr) := Lib.hid (by unfold recT; rw [if_pos rfl, Hh.out])
  rw [He.out]
  clear He Hh
  have hTiI : 0 < (Ti : Int) := by omega
  clear hTi
  have sw : (wordB 1).size ≤ 7 := by decide
  generalize numT T = tT at *
  generalize numT Ti = tTi at *
  generalize numT L = tL at *
  have z1 : (⟨#[32]⟩ : ByteArray).size = 1 := rfl
  have z2 : (⟨#[32, 64]⟩ : ByteArray).size = 2 := rfl
  have z3 : (⟨#[32, 110, 111]⟩ : ByteArray).size = 3 := rfl
  have z4 : (⟨#[32, 62]⟩ : ByteArray).size = 2 := rfl
  have hadd0 := fun W => run_string_add_sum (P := Tryz.prog) (w := W) ⟨#[32]⟩ tT (by (try simp only [ByteArray.size_append]); omega)
  have hadd1 := fun W => run_string_add_sum (P := Tryz.prog) (w := W) (wordB 1) (⟨#[32]⟩ ++ tT) (by (try simp only [ByteArray.size_append]); omega)
  have hadd2 := fun W => run_string_add_sum (P := Tryz.prog) (w := W) ⟨#[32, 64]⟩ tTi (by (try simp only [ByteArray.size_append]); omega)
  have hadd3 := fun W => run_string_add_sum (P := Tryz.prog) (w := W) (wordB 1 ++ (⟨#[32]⟩ ++ tT)) (⟨#[32, 64]⟩ ++ tTi) (by (try simp only [ByteArray.size_append]); omega)
  have hadd4 := fun W => run_string_add_sum (P := Tryz.prog) (w := W) ⟨#[32, 62]⟩ tL (by (try simp only [ByteArray.size_append]); omega)
  have hadd5 := fun W => run_string_add_sum (P := Tryz.prog) (w := W) (wordB 1 ++ (⟨#[32]⟩ ++ tT) ++ (⟨#[32, 64]⟩ ++ tTi)) (⟨#[32, 62]⟩ ++ tL) (by (try simp only [ByteArray.size_append]); omega)
  have Hs : Hid ((wordB 1 ++ (⟨#[32]⟩ ++ tT) ++ (⟨#[32, 64]⟩ ++ tTi) ++ (⟨#[32, 62]⟩ ++ tL)).size ≤ 1000) := Lib.hid (by (try simp only [ByteArray.size_append]); omega)
  have hRl : R.length ≤ 1048576 := by unfold costStringS at hR; omega
  have hRs : sumSize R ≤ 1048576 := by rw [sumSize_sumC]; unfold costStringS at hR; omega
  have hWl : Wr.length ≤ 1048576 := by unfold costWriteS at hW; omega
  have hWs : sumC costWrite Wr ≤ 1048576 := by unfold costWriteS at hW; omega
  obtain ⟨nR, hnR⟩ : ∃ n : Nat, R.length = n := ⟨_, rfl⟩
  obtain ⟨nW, hnW⟩ : ∃ n : Nat, Wr.length = n := ⟨_, rfl⟩
  obtain ⟨pr', cr', hv, rr⟩ := rR.strRow
  obtain ⟨rfl, rfl⟩ : pr' = pr ∧ cr' = cr := by injection hv with h1 _ h2; exact ⟨h1.symm, h2.symm⟩
  have RR := Lib.hid rr
  clear hv rr
  obtain ⟨pw', cw', hv, _, _, rr⟩ := rW.form
  obtain ⟨rfl, rfl⟩ : pw' = pw ∧ cw' = cw := by injection hv with h1 _ h2; exact ⟨h1.symm, h2.symm⟩
  have RW := Lib.hid rr
  clear hv rr rR rW hR hW
  have HnR := Lib.hid hnR
  have HnW := Lib.hid hnW
  rw [hnR] at hRl ⊢
  rw [hnW] at hWl ⊢
  have HRs := Lib.hid hRs
  have HWs := Lib.hid hWs
  have hnRI : (nR : Int) ≤ 1048576 := by omega
  have hnWI : (nW : Int) ≤ 1048576 := by omega
  clear hnR hnW hRs hWs
  clear sT sTi sL sw z1 z2 z3 z4
  go_enter Tryz.func14, Tryz.ntmps14
  go_wp2_with fail
  generalize hbx : World.alloc _ _ = wb
  have b : Below w.heap.size w wb := by rw [← hbx]; exact below_new _ _
  have q0 : w.heap.size < wb.heap.size := by rw [← hbx]; simp
  have c0 : wb.cell? ⟨w.heap.size, 0, none⟩ = some (.int .i64 1) := by rw [← hbx]; simp [go_sem]
  have c1 : wb.cell? ⟨w.heap.size, 1, none⟩ = some (.int .i64 (T : Int)) := by rw [← hbx]; simp [go_sem]
  have c2 : wb.cell? ⟨w.heap.size, 2, none⟩ = some (.int .i64 (Ti : Int)) := by rw [← hbx]; simp [go_sem]
  have c3 : wb.cell? ⟨w.heap.size, 3, none⟩ = some (.int .i64 (L : Int)) := by rw [← hbx]; simp [go_sem]
  have c4 : wb.cell? ⟨w.heap.size, 4, none⟩ = some (.slice pr' nR cr') := by rw [← hbx]; simp [go_sem]
  have c5 : wb.cell? ⟨w.heap.size, 5, none⟩ = some (.slice pw' nW cw') := by rw [← hbx]; simp [go_sem]
  have c6 : wb.cell? ⟨w.heap.size, 6, none⟩ = some (.bool Y) := by rw [← hbx]; simp [go_sem]
  clear hbx
  go_cut [3] (fun s wx => s = .string (wordB 1) ∧ Below wb.heap.size wb wx)
  case first =>
    refine wp_region_d 3 (fun w' => w'.cell? ⟨w.heap.size, 0, none⟩ = some (.int .i64 1) ∧ True) (by kernel_rfl) ?_
    have hS : wb.drew.cell? ⟨w.heap.size, 0, none⟩ = some (.int .i64 1) ∧ True := ⟨c0, trivial⟩
    refine d_take (f := 30) (v := ?_) 1 rfl (by kernel_rfl) (fun _ _ _ h => h) (Or.inl ⟨by rfl, ?_⟩) hS ?_
    rotate_left
    · intro wx hx
      obtain ⟨x0, x1⟩ := hx
      first | (go_simp; done) | (go_simp; with_reducible rfl)
    simp only [Act.put, List.setIfInBounds_toArray, List.set_cons_zero, List.set_cons_succ]
    refine d_take (f := 30) (v := ?_) 2 rfl (by kernel_rfl) (fun _ _ _ h => h) (Or.inl ⟨by rfl, ?_⟩) hS ?_
    rotate_left
    · intro wx hx
      obtain ⟨x0, x1⟩ := hx
      first | (go_simp; done) | (go_simp; with_reducible rfl)
    simp only [Act.put, List.setIfInBounds_toArray, List.set_cons_zero, List.set_cons_succ]
    refine d_step 0 (by kernel_rfl) rfl (fun K hK => ?_)
    go_simp
    go_at_call 10
    refine (l4Words_any _).mono ?_
    rintro e x1 ⟨N, rfl, hN, g1, g2, g3, g4, k⟩
    have m1 : Below wb.heap.size wb x1 := below_after k (by (repeat (first | (with_reducible exact Below.refl _ _) | (with_reducible refine below_setCell ?_ (by first | (simp; done) | (simp; omega) | omega)) | (with_reducible refine below_alloc _ ?_) | (with_reducible refine below_drewN ?_ _) | (with_reducible refine below_drew_step ?_) | (with_reducible assumption) | (with_reducible refine below_after (by assumption) ?_))))
    refine hK.out _ _ (fun _ => ⟨cell_step m1 c0, trivial⟩) ?_
    clear hK K k
    try simp only [Act.put, List.setIfInBounds_toArray, List.set_cons_zero, List.set_cons_succ]
    refine d_step 3 (by kernel_rfl) rfl (fun K hK => ?_)
    go_simp
    refine hK.out _ _ (fun h => by exact absurd h (by decide)) ?_
    clear hK K
    try simp only [Act.put, List.setIfInBounds_toArray, List.set_cons_zero, List.set_cons_succ]
    refine d_step 4 (by kernel_rfl) rfl (fun K hK => ?_)
    go_simp
    refine hK.out _ _ (fun h => by exact absurd h (by decide)) ?_
    clear hK K
    try simp only [Act.put, List.setIfInBounds_toArray, List.set_cons_zero, List.set_cons_succ]
    refine d_step 5 (by kernel_rfl) rfl (fun K hK => ?_)
    go_simp
    refine hK.out _ _ (fun h => by exact absurd h (by decide)) ?_
    clear hK K
    try simp only [Act.put, List.setIfInBounds_toArray, List.set_cons_zero, List.set_cons_succ]
    refine d_done (by kernel_rfl) ?_ _
    try simp only [Act.put, List.setIfInBounds_toArray, List.set_cons_zero, List.set_cons_succ]
    go_wp2_with fail
    go_meet
    exact ⟨rfl, by (repeat (first | (with_reducible exact Below.refl _ _) | (with_reducible refine below_setCell ?_ (by first | (simp; done) | (simp; omega) | omega)) | (with_reducible refine below_alloc _ ?_) | (with_reducible refine below_drewN ?_ _) | (with_reducible refine below_drew_step ?_) | (with_reducible assumption) | (with_reducible refine below_after (by assumption) ?_)))⟩
  case rest =>
    obtain ⟨rfl, m⟩ := hcut
    replace b := b.trans (m.mono b.size)
    replace c0 := cell_step m c0
    replace c1 := cell_step m c1
    replace c2 := cell_step m c2
    replace c3 := cell_step m c3
    replace c4 := cell_step m c4
    replace c5 := cell_step m c5
    replace c6 := cell_step m c6
    replace q0 := Nat.lt_of_lt_of_le q0 m.size
    clear m
    go_wp2_with fail
    refine (HT.out _ (by (repeat (first | (with_reducible exact Below.refl _ _) | (with_reducible refine below_setCell ?_ (by first | (simp; done) | (simp; omega) | omega)) | (with_reducible refine below_alloc _ ?_) | (with_reducible refine below_drewN ?_ _) | (with_reducible assumption) | (with_reducible refine below_after (by assumption) ?_))))).mono ?_
    rintro e u0 ⟨rfl, k⟩
    have m : Below wc.heap.size wc u0 := below_after k (by (repeat (first | (with_reducible exact Below.refl _ _) | (with_reducible refine below_setCell ?_ (by first | (simp; done) | (simp; omega) | omega)) | (with_reducible refine below_alloc _ ?_) | (with_reducible refine below_drewN ?_ _) | (with_reducible assumption) | (with_reducible refine below_after (by assumption) ?_))))
    replace b := b.trans (m.mono b.size)
    replace c0 := cell_step m c0
    replace c1 := cell_step m c1
    replace c2 := cell_step m c2
    replace c3 := cell_step m c3
    replace c4 := cell_step m c4
    replace c5 := cell_step m c5
    replace c6 := cell_step m c6
    replace q0 := Nat.lt_of_lt_of_le q0 m.size
    clear m k
    go_wp2_with fail
    refine (HTi.out _ (by (repeat (first | (with_reducible exact Below.refl _ _) | (with_reducible refine below_setCell ?_ (by first | (simp; done) | (simp; omega) | omega)) | (with_reducible refine below_alloc _ ?_) | (with_reducible refine below_drewN ?_ _) | (with_reducible assumption) | (with_reducible refine below_after (by assumption) ?_))))).mono ?_
    rintro e u1 ⟨rfl, k⟩
    have m : Below u0.heap.size u0 u1 := below_after k (by (repeat (first | (with_reducible exact Below.refl _ _) | (with_reducible refine below_setCell ?_ (by first | (simp; done) | (simp; omega) | omega)) | (with_reducible refine below_alloc _ ?_) | (with_reducible refine below_drewN ?_ _) | (with_reducible assumption) | (with_reducible refine below_after (by assumption) ?_))))
    replace b := b.trans (m.mono b.size)
    replace c0 := cell_step m c0
    replace c1 := cell_step m c1
    replace c2 := cell_step m c2
    replace c3 := cell_step m c3
    replace c4 := cell_step m c4
    replace c5 := cell_step m c5
    replace c6 := cell_step m c6
    replace q0 := Nat.lt_of_lt_of_le q0 m.size
    clear m k
    go_wp2_with fail
    refine (HL.out _ (by (repeat (first | (with_reducible exact Below.refl _ _) | (with_reducible refine below_setCell ?_ (by first | (simp; done) | (simp; omega) | omega)) | (with_reducible refine below_alloc _ ?_) | (with_reducible refine below_drewN ?_ _) | (with_reducible assumption) | (with_reducible refine below_after (by assumption) ?_))))).mono ?_
    rintro e u2 ⟨rfl, k⟩
    have m : Below u1.heap.size u1 u2 := below_after k (by (repeat (first | (with_reducible exact Below.refl _ _) | (with_reducible refine below_setCell ?_ (by first | (simp; done) | (simp; omega) | omega)) | (with_reducible refine below_alloc _ ?_) | (with_reducible refine below_drewN ?_ _) | (with_reducible assumption) | (with_reducible refine below_after (by assumption) ?_))))
    replace b := b.trans (m.mono b.size)
    replace c0 := cell_step m c0
    replace c1 := cell_step m c1
    replace c2 := cell_step m c2
    replace c3 := cell_step m c3
    replace c4 := cell_step m c4
    replace c5 := cell_step m c5
    replace c6 := cell_step m c6
    replace q0 := Nat.lt_of_lt_of_le q0 m.size
    clear m k
    go_wp2_with fail
    clear hadd0 hadd1 hadd2 hadd3 hadd4 hadd5
    obtain ⟨hd, Hhd⟩ : ∃ x, Hid (wordB 1 ++ (⟨#[32]⟩ ++ tT) ++ (⟨#[32, 64]⟩ ++ tTi) ++ (⟨#[32, 62]⟩ ++ tL) = x) := ⟨_, Lib.hid rfl⟩
    rw [Hhd.out] at Hs ⊢
    go_loopw [3, 46] (fun o i wr => ∃ k : Nat, i = .int .i64 (k : Int) ∧ k ≤ nR ∧ o = .string (rdsT hd (R.take k)) ∧ Below u2.heap.size u2 wr) (fun _ i _ => nR - (intOf i).toNat)
    case atStart => exact ⟨0, rfl, Nat.zero_le _, rfl, Below.refl _ _⟩
    case round =>
      obtain ⟨k, rfl, hk, rfl, hb⟩ := hrel
      by_cases hlt : k < nR
      · have hlt2 : (k : Int) < (nR : Int) := by omega
        have hkl : k < R.length := by have := HnR.out; omega
        obtain ⟨g, o, rfl, hg, hc⟩ := RR.out (by have := HnR.out; omega)
        have d0 : wr.cell? ⟨g, o + k, none⟩ = some (.string R[k]) := ((b.trans (hb.mono b.size)).cell (p := ⟨g, o + k, none⟩) hg).trans (hc k hkl)
        clear hc
        have Ht := Lib.hid (show rdsT hd (R.take (k + 1)) = rdsT hd (R.take k) ++ (⟨#[32, 63]⟩ ++ R[k]) from by rw [List.take_succ_eq_append_getElem hkl, rdsT_snoc])
        have hz : (rdsT hd (R.take k)).size ≤ 9000000 := by have := rdsT_size hd R k (by omega); have := Hs.out; have := HRs.out; omega
        have hz2 : R[k].size ≤ 1048576 := Nat.le_trans (sumSize_get R k hkl) HRs.out
        obtain ⟨x, es⟩ : ∃ x, R[k] = x := ⟨_, rfl⟩
        rw [es] at d0 Ht hz2
        have z1 : (⟨#[32, 63]⟩ : ByteArray).size = 2 := rfl
        generalize rdsT hd (R.take k) = t at *
        have ha0 := fun W => run_string_add_sum (P := Tryz.prog) (w := W) ⟨#[32, 63]⟩ x (by (try simp only [ByteArray.size_append]); omega)
        have ha1 := fun W => run_string_add_sum (P := Tryz.prog) (w := W) t (⟨#[32, 63]⟩ ++ x) (by (try simp only [ByteArray.size_append]); omega)
        clear es hkl hz hz2 z1
        go_wp2
        go_roundw
        case rel => exact ⟨k + 1, by go_num, by omega, by rw [Ht.out], hb⟩
        case measure => simp [intOf]; omega
      · have hlt2 : (nR : Int) ≤ (k : Int) := by omega
        obtain rfl : k = nR := by omega
        have hf : R.take k = R := List.take_of_length_le (by have := HnR.out; omega)
        have Hz : Hid ((rdsT hd R).size ≤ 9000000) := Lib.hid (by have := rdsT_size hd R R.length (Nat.le_refl _); rw [List.take_length] at this; have := Hs.out; have := HRs.out; have := HnR.out; omega)
        rw [hf]
        replace b := b.trans (hb.mono b.size)
        replace c0 := cell_step hb c0
        replace c1 := cell_step hb c1
        replace c2 := cell_step hb c2
        replace c3 := cell_step hb c3
        replace c4 := cell_step hb c4
        replace c5 := cell_step hb c5
        replace c6 := cell_step hb c6
        replace q0 := Nat.lt_of_lt_of_le q0 hb.size
        clear hf hb
        obtain ⟨h2, Hh2⟩ : ∃ x, Hid (rdsT hd R = x) := ⟨_, Lib.hid rfl⟩
        rw [Hh2.out] at Hz ⊢
        go_wp2_with fail
        go_loopw [3, 58] (fun o i wq => ∃ k : Nat, i = .int .i64 (k : Int) ∧ k ≤ nW ∧ o = .string (wrsT h2 (Wr.take k)) ∧ Below wr.heap.size wr wq) (fun _ i _ => nW - (intOf i).toNat)
        case atStart => exact ⟨0, rfl, Nat.zero_le _, rfl, Below.refl _ _⟩
        case round =>
          obtain ⟨j, rfl, hj, rfl, hb⟩ := hrel
          by_cases hlt : j < nW
          · have hlt2 : (j : Int) < (nW : Int) := by omega
            have hjl : j < Wr.length := by have := HnW.out; omega
            obtain ⟨g, o, rfl, hg, hc⟩ := RW.out (by have := HnW.out; omega)
            have at0 := (hc j hjl).below hg (b.trans (hb.mono b.size))
            have hgl : g < wr.heap.size := by have := b.size; have := hb.size; omega
            have Ht := Lib.hid (show wrsT h2 (Wr.take (j + 1)) = wT (wrsT h2 (Wr.take j)) Wr[j] from by rw [List.take_succ_eq_append_getElem hjl, wrsT_snoc])
            have hcst : costWrite Wr[j] ≤ 1048576 := Nat.le_trans (sumC_get costWrite Wr j hjl) HWs.out
            have hz : (wrsT h2 (Wr.take j)).size ≤ 20000000 := by have := wrsT_size h2 Wr j (by omega); have := Hz.out; have := HWs.out; omega
            obtain ⟨x, es⟩ : ∃ x, Wr[j] = x := ⟨_, rfl⟩
            rw [es] at at0 Ht hcst
            obtain ⟨d0, d1, d2, z0, z1⟩ := at_write at0
            rw [show o + j * Cod.write.size = o + j * 3 from rfl] at *
            obtain ⟨Ky, Va, Go⟩ := x
            simp only at *
            have hkey : Ky.size ≤ 1048576 := by unfold costWrite at hcst; simp only at hcst; omega
            have hval : Va.size ≤ 1048576 := by unfold costWrite at hcst; simp only at hcst; omega
            generalize wrsT h2 (Wr.take j) = t at *
            have y1 : (⟨#[32, 33]⟩ : ByteArray).size = 2 := rfl
            have y2 : (⟨#[45]⟩ : ByteArray).size = 1 := rfl
            have y3 : (⟨#[61]⟩ : ByteArray).size = 1 := rfl
            have ha0 := fun W => run_string_add_sum (P := Tryz.prog) (w := W) ⟨#[32, 33]⟩ Ky (by (try simp only [ByteArray.size_append]); omega)
            have ha1 := fun W => run_string_add_sum (P := Tryz.prog) (w := W) t (⟨#[32, 33]⟩ ++ Ky) (by (try simp only [ByteArray.size_append]); omega)
            have ha2 := fun W => run_string_add_sum (P := Tryz.prog) (w := W) (t ++ (⟨#[32, 33]⟩ ++ Ky)) ⟨#[45]⟩ (by (try simp only [ByteArray.size_append]); omega)
            have ha3 := fun W => run_string_add_sum (P := Tryz.prog) (w := W) ⟨#[61]⟩ Va (by (try simp only [ByteArray.size_append]); omega)
            have ha4 := fun W => run_string_add_sum (P := Tryz.prog) (w := W) (t ++ (⟨#[32, 33]⟩ ++ Ky)) (⟨#[61]⟩ ++ Va) (by (try simp only [ByteArray.size_append]); omega)
            clear hc es hjl at0 z0 z1 hcst y1 y2 y3 hz
            cases Go
            all_goals
              go_wp2
              go_roundw
              case rel => exact ⟨j + 1, by go_num, by omega, by rw [Ht.out]; unfold wT; simp only [if_true, if_false, Bool.false_eq_true, ByteArray.append_assoc], by (repeat (first | (with_reducible exact Below.refl _ _) | (with_reducible refine below_setCell ?_ (by first | (simp; done) | (simp; omega) | omega)) | (with_reducible refine below_alloc _ ?_) | (with_reducible refine below_drewN ?_ _) | (with_reducible assumption) | (with_reducible refine below_after (by assumption) ?_)))⟩
              case measure => simp [intOf]; omega
          · have hlt2 : (nW : Int) ≤ (j : Int) := by omega
            obtain rfl : j = nW := by omega
            have hf : Wr.take j = Wr := List.take_of_length_le (by have := HnW.out; omega)
            rw [hf]
            clear hf
            go_wp2
            go_ret
            exact ⟨ret_str (by rw [Hhd.out, Hh2.out]), b.trans (hb.mono b.size)⟩

set_option maxRecDepth 100000 in
set_option maxHeartbeats 3200000 in
/-- spec.l4Text, l4Text_2y -/
theorem l4Text_2y (T Ti L : Nat) (b1 : T ≤ 100000) (b2 : Ti ≤ 100000) (b3 : L ≤ 100000) (hTi : 0 < Ti)
    (w : World) (pr pw : Option Addr) (cr cw : Nat) (Y : Bool) :
    Calls Tryz.prog 14 #[.agg #[.int .i64 2, .int .i64 (T : Int), .int .i64 (Ti : Int), .int .i64 (L : Int), .slice pr 0 cr, .slice pw 0 cw, .bool true]] w fun e w' => e = .returned (.string (recT 2 T Ti L [] [])) ∧ Below w.heap.size w w' := by
  have sT := numT_le (n := T) (by omega)
  have sTi := numT_le (n := Ti) (by omega)
  have sL := numT_le (n := L) (by omega)
  have HT := Lib.hid (fun W (k : Below w.heap.size w W) => l1Num_any T (by omega) W)
  have HTi := Lib.hid (fun W (k : Below w.heap.size w W) => l1Num_any Ti (by omega) W)
  have HL := Lib.hid (fun W (k : Below w.heap.size w W) => l1Num_any L (by omega) W)
  have Hh : Hid (headT 2 T Ti = ((wordB 2 ++ (⟨#[32]⟩ ++ numT T)) ++ (⟨#[32, 64]⟩ ++ numT Ti))) := Lib.hid (by simp [headT, hTi])
  have He : Hid (recT 2 T Ti L [] [] = ((wordB 2 ++ (⟨#[32]⟩ ++ numT T)) ++ (⟨#[32, 64]⟩ ++ numT Ti))) := Lib.hid (by unfold recT; rw [if_neg (by decide), Hh.out])
  rw [He.out]
  clear He Hh
  have hTiI : 0 < (Ti : Int) := by omega
  clear hTi
  have sw : (wordB 2).size ≤ 7 := by decide
  generalize numT T = tT at *
  generalize numT Ti = tTi at *
  generalize numT L = tL at *
  have z1 : (⟨#[32]⟩ : ByteArray).size = 1 := rfl
  have z2 : (⟨#[32, 64]⟩ : ByteArray).size = 2 := rfl
  have z3 : (⟨#[32, 110, 111]⟩ : ByteArray).size = 3 := rfl
  have z4 : (⟨#[32, 62]⟩ : ByteArray).size = 2 := rfl
  have hadd0 := fun W => run_string_add_sum (P := Tryz.prog) (w := W) ⟨#[32]⟩ tT (by (try simp only [ByteArray.size_append]); omega)
  have hadd1 := fun W => run_string_add_sum (P := Tryz.prog) (w := W) (wordB 2) (⟨#[32]⟩ ++ tT) (by (try simp only [ByteArray.size_append]); omega)
  have hadd2 := fun W => run_string_add_sum (P := Tryz.prog) (w := W) ⟨#[32, 64]⟩ tTi (by (try simp only [ByteArray.size_append]); omega)
  have hadd3 := fun W => run_string_add_sum (P := Tryz.prog) (w := W) (wordB 2 ++ (⟨#[32]⟩ ++ tT)) (⟨#[32, 64]⟩ ++ tTi) (by (try simp only [ByteArray.size_append]); omega)
  have Hs : Hid ((wordB 2 ++ (⟨#[32]⟩ ++ tT) ++ (⟨#[32, 64]⟩ ++ tTi)).size ≤ 1000) := Lib.hid (by (try simp only [ByteArray.size_append]); omega)
  clear sT sTi sL sw z1 z2 z3 z4
  go_enter Tryz.func14, Tryz.ntmps14
  go_wp2_with fail
  generalize hbx : World.alloc _ _ = wb
  have b : Below w.heap.size w wb := by rw [← hbx]; exact below_new _ _
  have q0 : w.heap.size < wb.heap.size := by rw [← hbx]; simp
  have c0 : wb.cell? ⟨w.heap.size, 0, none⟩ = some (.int .i64 2) := by rw [← hbx]; simp [go_sem]
  have c1 : wb.cell? ⟨w.heap.size, 1, none⟩ = some (.int .i64 (T : Int)) := by rw [← hbx]; simp [go_sem]
  have c2 : wb.cell? ⟨w.heap.size, 2, none⟩ = some (.int .i64 (Ti : Int)) := by rw [← hbx]; simp [go_sem]
  have c3 : wb.cell? ⟨w.heap.size, 3, none⟩ = some (.int .i64 (L : Int)) := by rw [← hbx]; simp [go_sem]
  have c4 : wb.cell? ⟨w.heap.size, 4, none⟩ = some (.slice pr 0 cr) := by rw [← hbx]; simp [go_sem]
  have c5 : wb.cell? ⟨w.heap.size, 5, none⟩ = some (.slice pw 0 cw) := by rw [← hbx]; simp [go_sem]
  have c6 : wb.cell? ⟨w.heap.size, 6, none⟩ = some (.bool true) := by rw [← hbx]; simp [go_sem]
  clear hbx
  go_cut [3] (fun s wx => s = .string (wordB 2) ∧ Below wb.heap.size wb wx)
  case first =>
    refine wp_region_d 3 (fun w' => w'.cell? ⟨w.heap.size, 0, none⟩ = some (.int .i64 2) ∧ True) (by kernel_rfl) ?_
    have hS : wb.drew.cell? ⟨w.heap.size, 0, none⟩ = some (.int .i64 2) ∧ True := ⟨c0, trivial⟩
    refine d_take (f := 30) (v := ?_) 1 rfl (by kernel_rfl) (fun _ _ _ h => h) (Or.inl ⟨by rfl, ?_⟩) hS ?_
    rotate_left
    · intro wx hx
      obtain ⟨x0, x1⟩ := hx
      first | (go_simp; done) | (go_simp; with_reducible rfl)
    simp only [Act.put, List.setIfInBounds_toArray, List.set_cons_zero, List.set_cons_succ]
    refine d_take (f := 30) (v := ?_) 2 rfl (by kernel_rfl) (fun _ _ _ h => h) (Or.inl ⟨by rfl, ?_⟩) hS ?_
    rotate_left
    · intro wx hx
      obtain ⟨x0, x1⟩ := hx
      first | (go_simp; done) | (go_simp; with_reducible rfl)
    simp only [Act.put, List.setIfInBounds_toArray, List.set_cons_zero, List.set_cons_succ]
    refine d_step 0 (by kernel_rfl) rfl (fun K hK => ?_)
    go_simp
    go_at_call 10
    refine (l4Words_any _).mono ?_
    rintro e x1 ⟨N, rfl, hN, g1, g2, g3, g4, k⟩
    have m1 : Below wb.heap.size wb x1 := below_after k (by (repeat (first | (with_reducible exact Below.refl _ _) | (with_reducible refine below_setCell ?_ (by first | (simp; done) | (simp; omega) | omega)) | (with_reducible refine below_alloc _ ?_) | (with_reducible refine below_drewN ?_ _) | (with_reducible refine below_drew_step ?_) | (with_reducible assumption) | (with_reducible refine below_after (by assumption) ?_))))
    refine hK.out _ _ (fun _ => ⟨cell_step m1 c0, trivial⟩) ?_
    clear hK K k
    try simp only [Act.put, List.setIfInBounds_toArray, List.set_cons_zero, List.set_cons_succ]
    refine d_step 3 (by kernel_rfl) rfl (fun K hK => ?_)
    go_simp
    refine hK.out _ _ (fun h => by exact absurd h (by decide)) ?_
    clear hK K
    try simp only [Act.put, List.setIfInBounds_toArray, List.set_cons_zero, List.set_cons_succ]
    refine d_step 4 (by kernel_rfl) rfl (fun K hK => ?_)
    go_simp
    refine hK.out _ _ (fun h => by exact absurd h (by decide)) ?_
    clear hK K
    try simp only [Act.put, List.setIfInBounds_toArray, List.set_cons_zero, List.set_cons_succ]
    refine d_step 5 (by kernel_rfl) rfl (fun K hK => ?_)
    go_simp
    refine hK.out _ _ (fun h => by exact absurd h (by decide)) ?_
    clear hK K
    try simp only [Act.put, List.setIfInBounds_toArray, List.set_cons_zero, List.set_cons_succ]
    refine d_done (by kernel_rfl) ?_ _
    try simp only [Act.put, List.setIfInBounds_toArray, List.set_cons_zero, List.set_cons_succ]
    go_wp2_with fail
    go_meet
    exact ⟨rfl, by (repeat (first | (with_reducible exact Below.refl _ _) | (with_reducible refine below_setCell ?_ (by first | (simp; done) | (simp; omega) | omega)) | (with_reducible refine below_alloc _ ?_) | (with_reducible refine below_drewN ?_ _) | (with_reducible refine below_drew_step ?_) | (with_reducible assumption) | (with_reducible refine below_after (by assumption) ?_)))⟩
  case rest =>
    obtain ⟨rfl, m⟩ := hcut
    replace b := b.trans (m.mono b.size)
    replace c0 := cell_step m c0
    replace c1 := cell_step m c1
    replace c2 := cell_step m c2
    replace c3 := cell_step m c3
    replace c4 := cell_step m c4
    replace c5 := cell_step m c5
    replace c6 := cell_step m c6
    replace q0 := Nat.lt_of_lt_of_le q0 m.size
    clear m
    go_wp2_with fail
    refine (HT.out _ (by (repeat (first | (with_reducible exact Below.refl _ _) | (with_reducible refine below_setCell ?_ (by first | (simp; done) | (simp; omega) | omega)) | (with_reducible refine below_alloc _ ?_) | (with_reducible refine below_drewN ?_ _) | (with_reducible assumption) | (with_reducible refine below_after (by assumption) ?_))))).mono ?_
    rintro e u0 ⟨rfl, k⟩
    have m : Below wc.heap.size wc u0 := below_after k (by (repeat (first | (with_reducible exact Below.refl _ _) | (with_reducible refine below_setCell ?_ (by first | (simp; done) | (simp; omega) | omega)) | (with_reducible refine below_alloc _ ?_) | (with_reducible refine below_drewN ?_ _) | (with_reducible assumption) | (with_reducible refine below_after (by assumption) ?_))))
    replace b := b.trans (m.mono b.size)
    replace c0 := cell_step m c0
    replace c1 := cell_step m c1
    replace c2 := cell_step m c2
    replace c3 := cell_step m c3
    replace c4 := cell_step m c4
    replace c5 := cell_step m c5
    replace c6 := cell_step m c6
    replace q0 := Nat.lt_of_lt_of_le q0 m.size
    clear m k
    go_wp2_with fail
    refine (HTi.out _ (by (repeat (first | (with_reducible exact Below.refl _ _) | (with_reducible refine below_setCell ?_ (by first | (simp; done) | (simp; omega) | omega)) | (with_reducible refine below_alloc _ ?_) | (with_reducible refine below_drewN ?_ _) | (with_reducible assumption) | (with_reducible refine below_after (by assumption) ?_))))).mono ?_
    rintro e u1 ⟨rfl, k⟩
    have m : Below u0.heap.size u0 u1 := below_after k (by (repeat (first | (with_reducible exact Below.refl _ _) | (with_reducible refine below_setCell ?_ (by first | (simp; done) | (simp; omega) | omega)) | (with_reducible refine below_alloc _ ?_) | (with_reducible refine below_drewN ?_ _) | (with_reducible assumption) | (with_reducible refine below_after (by assumption) ?_))))
    replace b := b.trans (m.mono b.size)
    replace c0 := cell_step m c0
    replace c1 := cell_step m c1
    replace c2 := cell_step m c2
    replace c3 := cell_step m c3
    replace c4 := cell_step m c4
    replace c5 := cell_step m c5
    replace c6 := cell_step m c6
    replace q0 := Nat.lt_of_lt_of_le q0 m.size
    clear m k
    go_wp2
    go_ret
    exact ⟨rfl, by (repeat (first | (with_reducible exact Below.refl _ _) | (with_reducible refine below_setCell ?_ (by first | (simp; done) | (simp; omega) | omega)) | (with_reducible refine below_alloc _ ?_) | (with_reducible refine below_drewN ?_ _) | (with_reducible assumption) | (with_reducible refine below_after (by assumption) ?_)))⟩

set_option maxRecDepth 100000 in
set_option maxHeartbeats 3200000 in
/-- spec.l4Text, l4Text_2n -/
theorem l4Text_2n (T Ti L : Nat) (b1 : T ≤ 100000) (b2 : Ti ≤ 100000) (b3 : L ≤ 100000) (hTi : Ti = 0)
    (w : World) (pr pw : Option Addr) (cr cw : Nat) (Y : Bool) :
    Calls Tryz.prog 14 #[.agg #[.int .i64 2, .int .i64 (T : Int), .int .i64 (Ti : Int), .int .i64 (L : Int), .slice pr 0 cr, .slice pw 0 cw, .bool false]] w fun e w' => e = .returned (.string (recT 2 T Ti L [] [])) ∧ Below w.heap.size w w' := by
  have sT := numT_le (n := T) (by omega)
  have sTi := numT_le (n := Ti) (by omega)
  have sL := numT_le (n := L) (by omega)
  have HT := Lib.hid (fun W (k : Below w.heap.size w W) => l1Num_any T (by omega) W)
  have HTi := Lib.hid (fun W (k : Below w.heap.size w W) => l1Num_any Ti (by omega) W)
  have HL := Lib.hid (fun W (k : Below w.heap.size w W) => l1Num_any L (by omega) W)
  have Hh : Hid (headT 2 T Ti = ((wordB 2 ++ (⟨#[32]⟩ ++ numT T)) ++ ⟨#[32, 110, 111]⟩)) := Lib.hid (by simp [headT, hTi])
  have He : Hid (recT 2 T Ti L [] [] = ((wordB 2 ++ (⟨#[32]⟩ ++ numT T)) ++ ⟨#[32, 110, 111]⟩)) := Lib.hid (by unfold recT; rw [if_neg (by decide), Hh.out])
  rw [He.out]
  clear He Hh
  subst hTi
  have hTiI : ¬ 0 < ((0 : Nat) : Int) := by omega
  have sw : (wordB 2).size ≤ 7 := by decide
  generalize numT T = tT at *
  generalize numT L = tL at *
  have z1 : (⟨#[32]⟩ : ByteArray).size = 1 := rfl
  have z2 : (⟨#[32, 64]⟩ : ByteArray).size = 2 := rfl
  have z3 : (⟨#[32, 110, 111]⟩ : ByteArray).size = 3 := rfl
  have z4 : (⟨#[32, 62]⟩ : ByteArray).size = 2 := rfl
  have hadd0 := fun W => run_string_add_sum (P := Tryz.prog) (w := W) ⟨#[32]⟩ tT (by (try simp only [ByteArray.size_append]); omega)
  have hadd1 := fun W => run_string_add_sum (P := Tryz.prog) (w := W) (wordB 2) (⟨#[32]⟩ ++ tT) (by (try simp only [ByteArray.size_append]); omega)
  have hadd2 := fun W => run_string_add_sum (P := Tryz.prog) (w := W) (wordB 2 ++ (⟨#[32]⟩ ++ tT)) ⟨#[32, 110, 111]⟩ (by (try simp only [ByteArray.size_append]); omega)
  have Hs : Hid ((wordB 2 ++ (⟨#[32]⟩ ++ tT) ++ ⟨#[32, 110, 111]⟩).size ≤ 1000) := Lib.hid (by (try simp only [ByteArray.size_append]); omega)
  clear sT sTi sL sw z1 z2 z3 z4
  go_enter Tryz.func14, Tryz.ntmps14
  go_wp2_with fail
  generalize hbx : World.alloc _ _ = wb
  have b : Below w.heap.size w wb := by rw [← hbx]; exact below_new _ _
  have q0 : w.heap.size < wb.heap.size := by rw [← hbx]; simp
  have c0 : wb.cell? ⟨w.heap.size, 0, none⟩ = some (.int .i64 2) := by rw [← hbx]; simp [go_sem]
  have c1 : wb.cell? ⟨w.heap.size, 1, none⟩ = some (.int .i64 (T : Int)) := by rw [← hbx]; simp [go_sem]
  have c2 : wb.cell? ⟨w.heap.size, 2, none⟩ = some (.int .i64 ((0 : Nat) : Int)) := by rw [← hbx]; simp [go_sem]
  have c3 : wb.cell? ⟨w.heap.size, 3, none⟩ = some (.int .i64 (L : Int)) := by rw [← hbx]; simp [go_sem]
  have c4 : wb.cell? ⟨w.heap.size, 4, none⟩ = some (.slice pr 0 cr) := by rw [← hbx]; simp [go_sem]
  have c5 : wb.cell? ⟨w.heap.size, 5, none⟩ = some (.slice pw 0 cw) := by rw [← hbx]; simp [go_sem]
  have c6 : wb.cell? ⟨w.heap.size, 6, none⟩ = some (.bool false) := by rw [← hbx]; simp [go_sem]
  clear hbx
  go_cut [3] (fun s wx => s = .string (wordB 2) ∧ Below wb.heap.size wb wx)
  case first =>
    refine wp_region_d 3 (fun w' => w'.cell? ⟨w.heap.size, 0, none⟩ = some (.int .i64 2) ∧ True) (by kernel_rfl) ?_
    have hS : wb.drew.cell? ⟨w.heap.size, 0, none⟩ = some (.int .i64 2) ∧ True := ⟨c0, trivial⟩
    refine d_take (f := 30) (v := ?_) 1 rfl (by kernel_rfl) (fun _ _ _ h => h) (Or.inl ⟨by rfl, ?_⟩) hS ?_
    rotate_left
    · intro wx hx
      obtain ⟨x0, x1⟩ := hx
      first | (go_simp; done) | (go_simp; with_reducible rfl)
    simp only [Act.put, List.setIfInBounds_toArray, List.set_cons_zero, List.set_cons_succ]
    refine d_take (f := 30) (v := ?_) 2 rfl (by kernel_rfl) (fun _ _ _ h => h) (Or.inl ⟨by rfl, ?_⟩) hS ?_
    rotate_left
    · intro wx hx
      obtain ⟨x0, x1⟩ := hx
      first | (go_simp; done) | (go_simp; with_reducible rfl)
    simp only [Act.put, List.setIfInBounds_toArray, List.set_cons_zero, List.set_cons_succ]
    refine d_step 0 (by kernel_rfl) rfl (fun K hK => ?_)
    go_simp
    go_at_call 10
    refine (l4Words_any _).mono ?_
    rintro e x1 ⟨N, rfl, hN, g1, g2, g3, g4, k⟩
    have m1 : Below wb.heap.size wb x1 := below_after k (by (repeat (first | (with_reducible exact Below.refl _ _) | (with_reducible refine below_setCell ?_ (by first | (simp; done) | (simp; omega) | omega)) | (with_reducible refine below_alloc _ ?_) | (with_reducible refine below_drewN ?_ _) | (with_reducible refine below_drew_step ?_) | (with_reducible assumption) | (with_reducible refine below_after (by assumption) ?_))))
    refine hK.out _ _ (fun _ => ⟨cell_step m1 c0, trivial⟩) ?_
    clear hK K k
    try simp only [Act.put, List.setIfInBounds_toArray, List.set_cons_zero, List.set_cons_succ]
    refine d_step 3 (by kernel_rfl) rfl (fun K hK => ?_)
    go_simp
    refine hK.out _ _ (fun h => by exact absurd h (by decide)) ?_
    clear hK K
    try simp only [Act.put, List.setIfInBounds_toArray, List.set_cons_zero, List.set_cons_succ]
    refine d_step 4 (by kernel_rfl) rfl (fun K hK => ?_)
    go_simp
    refine hK.out _ _ (fun h => by exact absurd h (by decide)) ?_
    clear hK K
    try simp only [Act.put, List.setIfInBounds_toArray, List.set_cons_zero, List.set_cons_succ]
    refine d_step 5 (by kernel_rfl) rfl (fun K hK => ?_)
    go_simp
    refine hK.out _ _ (fun h => by exact absurd h (by decide)) ?_
    clear hK K
    try simp only [Act.put, List.setIfInBounds_toArray, List.set_cons_zero, List.set_cons_succ]
    refine d_done (by kernel_rfl) ?_ _
    try simp only [Act.put, List.setIfInBounds_toArray, List.set_cons_zero, List.set_cons_succ]
    go_wp2_with fail
    go_meet
    exact ⟨rfl, by (repeat (first | (with_reducible exact Below.refl _ _) | (with_reducible refine below_setCell ?_ (by first | (simp; done) | (simp; omega) | omega)) | (with_reducible refine below_alloc _ ?_) | (with_reducible refine below_drewN ?_ _) | (with_reducible refine below_drew_step ?_) | (with_reducible assumption) | (with_reducible refine below_after (by assumption) ?_)))⟩
  case rest =>
    obtain ⟨rfl, m⟩ := hcut
    replace b := b.trans (m.mono b.size)
    replace c0 := cell_step m c0
    replace c1 := cell_step m c1
    replace c2 := cell_step m c2
    replace c3 := cell_step m c3
    replace c4 := cell_step m c4
    replace c5 := cell_step m c5
    replace c6 := cell_step m c6
    replace q0 := Nat.lt_of_lt_of_le q0 m.size
    clear m
    go_wp2_with fail
    refine (HT.out _ (by (repeat (first | (with_reducible exact Below.refl _ _) | (with_reducible refine below_setCell ?_ (by first | (simp; done) | (simp; omega) | omega)) | (with_reducible refine below_alloc _ ?_) | (with_reducible refine below_drewN ?_ _) | (with_reducible assumption) | (with_reducible refine below_after (by assumption) ?_))))).mono ?_
    rintro e u0 ⟨rfl, k⟩
    have m : Below wc.heap.size wc u0 := below_after k (by (repeat (first | (with_reducible exact Below.refl _ _) | (with_reducible refine below_setCell ?_ (by first | (simp; done) | (simp; omega) | omega)) | (with_reducible refine below_alloc _ ?_) | (with_reducible refine below_drewN ?_ _) | (with_reducible assumption) | (with_reducible refine below_after (by assumption) ?_))))
    replace b := b.trans (m.mono b.size)
    replace c0 := cell_step m c0
    replace c1 := cell_step m c1
    replace c2 := cell_step m c2
    replace c3 := cell_step m c3
    replace c4 := cell_step m c4
    replace c5 := cell_step m c5
    replace c6 := cell_step m c6
    replace q0 := Nat.lt_of_lt_of_le q0 m.size
    clear m k
    go_wp2
    go_ret
    exact ⟨rfl, by (repeat (first | (with_reducible exact Below.refl _ _) | (with_reducible refine below_setCell ?_ (by first | (simp; done) | (simp; omega) | omega)) | (with_reducible refine below_alloc _ ?_) | (with_reducible refine below_drewN ?_ _) | (with_reducible assumption) | (with_reducible refine below_after (by assumption) ?_)))⟩

set_option maxRecDepth 100000 in
set_option maxHeartbeats 3200000 in
/-- spec.l4Text, l4Text_3y -/
theorem l4Text_3y (T Ti L : Nat) (b1 : T ≤ 100000) (b2 : Ti ≤ 100000) (b3 : L ≤ 100000) (hTi : 0 < Ti)
    (w : World) (pr pw : Option Addr) (cr cw : Nat) (Y : Bool) :
    Calls Tryz.prog 14 #[.agg #[.int .i64 3, .int .i64 (T : Int), .int .i64 (Ti : Int), .int .i64 (L : Int), .slice pr 0 cr, .slice pw 0 cw, .bool true]] w fun e w' => e = .returned (.string (recT 3 T Ti L [] [])) ∧ Below w.heap.size w w' := by
  have sT := numT_le (n := T) (by omega)
  have sTi := numT_le (n := Ti) (by omega)
  have sL := numT_le (n := L) (by omega)
  have HT := Lib.hid (fun W (k : Below w.heap.size w W) => l1Num_any T (by omega) W)
  have HTi := Lib.hid (fun W (k : Below w.heap.size w W) => l1Num_any Ti (by omega) W)
  have HL := Lib.hid (fun W (k : Below w.heap.size w W) => l1Num_any L (by omega) W)
  have Hh : Hid (headT 3 T Ti = ((wordB 3 ++ (⟨#[32]⟩ ++ numT T)) ++ (⟨#[32, 64]⟩ ++ numT Ti))) := Lib.hid (by simp [headT, hTi])
  have He : Hid (recT 3 T Ti L [] [] = ((wordB 3 ++ (⟨#[32]⟩ ++ numT T)) ++ (⟨#[32, 64]⟩ ++ numT Ti))) := Lib.hid (by unfold recT; rw [if_neg (by decide), Hh.out])
  rw [He.out]
  clear He Hh
  have hTiI : 0 < (Ti : Int) := by omega
  clear hTi
  have sw : (wordB 3).size ≤ 7 := by decide
  generalize numT T = tT at *
  generalize numT Ti = tTi at *
  generalize numT L = tL at *
  have z1 : (⟨#[32]⟩ : ByteArray).size = 1 := rfl
  have z2 : (⟨#[32, 64]⟩ : ByteArray).size = 2 := rfl
  have z3 : (⟨#[32, 110, 111]⟩ : ByteArray).size = 3 := rfl
  have z4 : (⟨#[32, 62]⟩ : ByteArray).size = 2 := rfl
  have hadd0 := fun W => run_string_add_sum (P := Tryz.prog) (w := W) ⟨#[32]⟩ tT (by (try simp only [ByteArray.size_append]); omega)
  have hadd1 := fun W => run_string_add_sum (P := Tryz.prog) (w := W) (wordB 3) (⟨#[32]⟩ ++ tT) (by (try simp only [ByteArray.size_append]); omega)
  have hadd2 := fun W => run_string_add_sum (P := Tryz.prog) (w := W) ⟨#[32, 64]⟩ tTi (by (try simp only [ByteArray.size_append]); omega)
  have hadd3 := fun W => run_string_add_sum (P := Tryz.prog) (w := W) (wordB 3 ++ (⟨#[32]⟩ ++ tT)) (⟨#[32, 64]⟩ ++ tTi) (by (try simp only [ByteArray.size_append]); omega)
  have Hs : Hid ((wordB 3 ++ (⟨#[32]⟩ ++ tT) ++ (⟨#[32, 64]⟩ ++ tTi)).size ≤ 1000) := Lib.hid (by (try simp only [ByteArray.size_append]); omega)
  clear sT sTi sL sw z1 z2 z3 z4
  go_enter Tryz.func14, Tryz.ntmps14
  go_wp2_with fail
  generalize hbx : World.alloc _ _ = wb
  have b : Below w.heap.size w wb := by rw [← hbx]; exact below_new _ _
  have q0 : w.heap.size < wb.heap.size := by rw [← hbx]; simp
  have c0 : wb.cell? ⟨w.heap.size, 0, none⟩ = some (.int .i64 3) := by rw [← hbx]; simp [go_sem]
  have c1 : wb.cell? ⟨w.heap.size, 1, none⟩ = some (.int .i64 (T : Int)) := by rw [← hbx]; simp [go_sem]
  have c2 : wb.cell? ⟨w.heap.size, 2, none⟩ = some (.int .i64 (Ti : Int)) := by rw [← hbx]; simp [go_sem]
  have c3 : wb.cell? ⟨w.heap.size, 3, none⟩ = some (.int .i64 (L : Int)) := by rw [← hbx]; simp [go_sem]
  have c4 : wb.cell? ⟨w.heap.size, 4, none⟩ = some (.slice pr 0 cr) := by rw [← hbx]; simp [go_sem]
  have c5 : wb.cell? ⟨w.heap.size, 5, none⟩ = some (.slice pw 0 cw) := by rw [← hbx]; simp [go_sem]
  have c6 : wb.cell? ⟨w.heap.size, 6, none⟩ = some (.bool true) := by rw [← hbx]; simp [go_sem]
  clear hbx
  go_cut [3] (fun s wx => s = .string (wordB 3) ∧ Below wb.heap.size wb wx)
  case first =>
    refine wp_region_d 3 (fun w' => w'.cell? ⟨w.heap.size, 0, none⟩ = some (.int .i64 3) ∧ True) (by kernel_rfl) ?_
    have hS : wb.drew.cell? ⟨w.heap.size, 0, none⟩ = some (.int .i64 3) ∧ True := ⟨c0, trivial⟩
    refine d_take (f := 30) (v := ?_) 1 rfl (by kernel_rfl) (fun _ _ _ h => h) (Or.inl ⟨by rfl, ?_⟩) hS ?_
    rotate_left
    · intro wx hx
      obtain ⟨x0, x1⟩ := hx
      first | (go_simp; done) | (go_simp; with_reducible rfl)
    simp only [Act.put, List.setIfInBounds_toArray, List.set_cons_zero, List.set_cons_succ]
    refine d_take (f := 30) (v := ?_) 2 rfl (by kernel_rfl) (fun _ _ _ h => h) (Or.inl ⟨by rfl, ?_⟩) hS ?_
    rotate_left
    · intro wx hx
      obtain ⟨x0, x1⟩ := hx
      first | (go_simp; done) | (go_simp; with_reducible rfl)
    simp only [Act.put, List.setIfInBounds_toArray, List.set_cons_zero, List.set_cons_succ]
    refine d_step 0 (by kernel_rfl) rfl (fun K hK => ?_)
    go_simp
    go_at_call 10
    refine (l4Words_any _).mono ?_
    rintro e x1 ⟨N, rfl, hN, g1, g2, g3, g4, k⟩
    have m1 : Below wb.heap.size wb x1 := below_after k (by (repeat (first | (with_reducible exact Below.refl _ _) | (with_reducible refine below_setCell ?_ (by first | (simp; done) | (simp; omega) | omega)) | (with_reducible refine below_alloc _ ?_) | (with_reducible refine below_drewN ?_ _) | (with_reducible refine below_drew_step ?_) | (with_reducible assumption) | (with_reducible refine below_after (by assumption) ?_))))
    refine hK.out _ _ (fun _ => ⟨cell_step m1 c0, trivial⟩) ?_
    clear hK K k
    try simp only [Act.put, List.setIfInBounds_toArray, List.set_cons_zero, List.set_cons_succ]
    refine d_step 3 (by kernel_rfl) rfl (fun K hK => ?_)
    go_simp
    refine hK.out _ _ (fun h => by exact absurd h (by decide)) ?_
    clear hK K
    try simp only [Act.put, List.setIfInBounds_toArray, List.set_cons_zero, List.set_cons_succ]
    refine d_step 4 (by kernel_rfl) rfl (fun K hK => ?_)
    go_simp
    refine hK.out _ _ (fun h => by exact absurd h (by decide)) ?_
    clear hK K
    try simp only [Act.put, List.setIfInBounds_toArray, List.set_cons_zero, List.set_cons_succ]
    refine d_step 5 (by kernel_rfl) rfl (fun K hK => ?_)
    go_simp
    refine hK.out _ _ (fun h => by exact absurd h (by decide)) ?_
    clear hK K
    try simp only [Act.put, List.setIfInBounds_toArray, List.set_cons_zero, List.set_cons_succ]
    refine d_done (by kernel_rfl) ?_ _
    try simp only [Act.put, List.setIfInBounds_toArray, List.set_cons_zero, List.set_cons_succ]
    go_wp2_with fail
    go_meet
    exact ⟨rfl, by (repeat (first | (with_reducible exact Below.refl _ _) | (with_reducible refine below_setCell ?_ (by first | (simp; done) | (simp; omega) | omega)) | (with_reducible refine below_alloc _ ?_) | (with_reducible refine below_drewN ?_ _) | (with_reducible refine below_drew_step ?_) | (with_reducible assumption) | (with_reducible refine below_after (by assumption) ?_)))⟩
  case rest =>
    obtain ⟨rfl, m⟩ := hcut
    replace b := b.trans (m.mono b.size)
    replace c0 := cell_step m c0
    replace c1 := cell_step m c1
    replace c2 := cell_step m c2
    replace c3 := cell_step m c3
    replace c4 := cell_step m c4
    replace c5 := cell_step m c5
    replace c6 := cell_step m c6
    replace q0 := Nat.lt_of_lt_of_le q0 m.size
    clear m
    go_wp2_with fail
    refine (HT.out _ (by (repeat (first | (with_reducible exact Below.refl _ _) | (with_reducible refine below_setCell ?_ (by first | (simp; done) | (simp; omega) | omega)) | (with_reducible refine below_alloc _ ?_) | (with_reducible refine below_drewN ?_ _) | (with_reducible assumption) | (with_reducible refine below_after (by assumption) ?_))))).mono ?_
    rintro e u0 ⟨rfl, k⟩
    have m : Below wc.heap.size wc u0 := below_after k (by (repeat (first | (with_reducible exact Below.refl _ _) | (with_reducible refine below_setCell ?_ (by first | (simp; done) | (simp; omega) | omega)) | (with_reducible refine below_alloc _ ?_) | (with_reducible refine below_drewN ?_ _) | (with_reducible assumption) | (with_reducible refine below_after (by assumption) ?_))))
    replace b := b.trans (m.mono b.size)
    replace c0 := cell_step m c0
    replace c1 := cell_step m c1
    replace c2 := cell_step m c2
    replace c3 := cell_step m c3
    replace c4 := cell_step m c4
    replace c5 := cell_step m c5
    replace c6 := cell_step m c6
    replace q0 := Nat.lt_of_lt_of_le q0 m.size
    clear m k
    go_wp2_with fail
    refine (HTi.out _ (by (repeat (first | (with_reducible exact Below.refl _ _) | (with_reducible refine below_setCell ?_ (by first | (simp; done) | (simp; omega) | omega)) | (with_reducible refine below_alloc _ ?_) | (with_reducible refine below_drewN ?_ _) | (with_reducible assumption) | (with_reducible refine below_after (by assumption) ?_))))).mono ?_
    rintro e u1 ⟨rfl, k⟩
    have m : Below u0.heap.size u0 u1 := below_after k (by (repeat (first | (with_reducible exact Below.refl _ _) | (with_reducible refine below_setCell ?_ (by first | (simp; done) | (simp; omega) | omega)) | (with_reducible refine below_alloc _ ?_) | (with_reducible refine below_drewN ?_ _) | (with_reducible assumption) | (with_reducible refine below_after (by assumption) ?_))))
    replace b := b.trans (m.mono b.size)
    replace c0 := cell_step m c0
    replace c1 := cell_step m c1
    replace c2 := cell_step m c2
    replace c3 := cell_step m c3
    replace c4 := cell_step m c4
    replace c5 := cell_step m c5
    replace c6 := cell_step m c6
    replace q0 := Nat.lt_of_lt_of_le q0 m.size
    clear m k
    go_wp2
    go_ret
    exact ⟨rfl, by (repeat (first | (with_reducible exact Below.refl _ _) | (with_reducible refine below_setCell ?_ (by first | (simp; done) | (simp; omega) | omega)) | (with_reducible refine below_alloc _ ?_) | (with_reducible refine below_drewN ?_ _) | (with_reducible assumption) | (with_reducible refine below_after (by assumption) ?_)))⟩

set_option maxRecDepth 100000 in
set_option maxHeartbeats 3200000 in
/-- spec.l4Text, l4Text_3n -/
theorem l4Text_3n (T Ti L : Nat) (b1 : T ≤ 100000) (b2 : Ti ≤ 100000) (b3 : L ≤ 100000) (hTi : Ti = 0)
    (w : World) (pr pw : Option Addr) (cr cw : Nat) (Y : Bool) :
    Calls Tryz.prog 14 #[.agg #[.int .i64 3, .int .i64 (T : Int), .int .i64 (Ti : Int), .int .i64 (L : Int), .slice pr 0 cr, .slice pw 0 cw, .bool false]] w fun e w' => e = .returned (.string (recT 3 T Ti L [] [])) ∧ Below w.heap.size w w' := by
  have sT := numT_le (n := T) (by omega)
  have sTi := numT_le (n := Ti) (by omega)
  have sL := numT_le (n := L) (by omega)
  have HT := Lib.hid (fun W (k : Below w.heap.size w W) => l1Num_any T (by omega) W)
  have HTi := Lib.hid (fun W (k : Below w.heap.size w W) => l1Num_any Ti (by omega) W)
  have HL := Lib.hid (fun W (k : Below w.heap.size w W) => l1Num_any L (by omega) W)
  have Hh : Hid (headT 3 T Ti = ((wordB 3 ++ (⟨#[32]⟩ ++ numT T)) ++ ⟨#[32, 110, 111]⟩)) := Lib.hid (by simp [headT, hTi])
  have He : Hid (recT 3 T Ti L [] [] = ((wordB 3 ++ (⟨#[32]⟩ ++ numT T)) ++ ⟨#[32, 110, 111]⟩)) := Lib.hid (by unfold recT; rw [if_neg (by decide), Hh.out])
  rw [He.out]
  clear He Hh
  subst hTi
  have hTiI : ¬ 0 < ((0 : Nat) : Int) := by omega
  have sw : (wordB 3).size ≤ 7 := by decide
  generalize numT T = tT at *
  generalize numT L = tL at *
  have z1 : (⟨#[32]⟩ : ByteArray).size = 1 := rfl
  have z2 : (⟨#[32, 64]⟩ : ByteArray).size = 2 := rfl
  have z3 : (⟨#[32, 110, 111]⟩ : ByteArray).size = 3 := rfl
  have z4 : (⟨#[32, 62]⟩ : ByteArray).size = 2 := rfl
  have hadd0 := fun W => run_string_add_sum (P := Tryz.prog) (w := W) ⟨#[32]⟩ tT (by (try simp only [ByteArray.size_append]); omega)
  have hadd1 := fun W => run_string_add_sum (P := Tryz.prog) (w := W) (wordB 3) (⟨#[32]⟩ ++ tT) (by (try simp only [ByteArray.size_append]); omega)
  have hadd2 := fun W => run_string_add_sum (P := Tryz.prog) (w := W) (wordB 3 ++ (⟨#[32]⟩ ++ tT)) ⟨#[32, 110, 111]⟩ (by (try simp only [ByteArray.size_append]); omega)
  have Hs : Hid ((wordB 3 ++ (⟨#[32]⟩ ++ tT) ++ ⟨#[32, 110, 111]⟩).size ≤ 1000) := Lib.hid (by (try simp only [ByteArray.size_append]); omega)
  clear sT sTi sL sw z1 z2 z3 z4
  go_enter Tryz.func14, Tryz.ntmps14
  go_wp2_with fail
  generalize hbx : World.alloc _ _ = wb
  have b : Below w.heap.size w wb := by rw [← hbx]; exact below_new _ _
  have q0 : w.heap.size < wb.heap.size := by rw [← hbx]; simp
  have c0 : wb.cell? ⟨w.heap.size, 0, none⟩ = some (.int .i64 3) := by rw [← hbx]; simp [go_sem]
  have c1 : wb.cell? ⟨w.heap.size, 1, none⟩ = some (.int .i64 (T : Int)) := by rw [← hbx]; simp [go_sem]
  have c2 : wb.cell? ⟨w.heap.size, 2, none⟩ = some (.int .i64 ((0 : Nat) : Int)) := by rw [← hbx]; simp [go_sem]
  have c3 : wb.cell? ⟨w.heap.size, 3, none⟩ = some (.int .i64 (L : Int)) := by rw [← hbx]; simp [go_sem]
  have c4 : wb.cell? ⟨w.heap.size, 4, none⟩ = some (.slice pr 0 cr) := by rw [← hbx]; simp [go_sem]
  have c5 : wb.cell? ⟨w.heap.size, 5, none⟩ = some (.slice pw 0 cw) := by rw [← hbx]; simp [go_sem]
  have c6 : wb.cell? ⟨w.heap.size, 6, none⟩ = some (.bool false) := by rw [← hbx]; simp [go_sem]
  clear hbx
  go_cut [3] (fun s wx => s = .string (wordB 3) ∧ Below wb.heap.size wb wx)
  case first =>
    refine wp_region_d 3 (fun w' => w'.cell? ⟨w.heap.size, 0, none⟩ = some (.int .i64 3) ∧ True) (by kernel_rfl) ?_
    have hS : wb.drew.cell? ⟨w.heap.size, 0, none⟩ = some (.int .i64 3) ∧ True := ⟨c0, trivial⟩
    refine d_take (f := 30) (v := ?_) 1 rfl (by kernel_rfl) (fun _ _ _ h => h) (Or.inl ⟨by rfl, ?_⟩) hS ?_
    rotate_left
    · intro wx hx
      obtain ⟨x0, x1⟩ := hx
      first | (go_simp; done) | (go_simp; with_reducible rfl)
    simp only [Act.put, List.setIfInBounds_toArray, List.set_cons_zero, List.set_cons_succ]
    refine d_take (f := 30) (v := ?_) 2 rfl (by kernel_rfl) (fun _ _ _ h => h) (Or.inl ⟨by rfl, ?_⟩) hS ?_
    rotate_left
    · intro wx hx
      obtain ⟨x0, x1⟩ := hx
      first | (go_simp; done) | (go_simp; with_reducible rfl)
    simp only [Act.put, List.setIfInBounds_toArray, List.set_cons_zero, List.set_cons_succ]
    refine d_step 0 (by kernel_rfl) rfl (fun K hK => ?_)
    go_simp
    go_at_call 10
    refine (l4Words_any _).mono ?_
    rintro e x1 ⟨N, rfl, hN, g1, g2, g3, g4, k⟩
    have m1 : Below wb.heap.size wb x1 := below_after k (by (repeat (first | (with_reducible exact Below.refl _ _) | (with_reducible refine below_setCell ?_ (by first | (simp; done) | (simp; omega) | omega)) | (with_reducible refine below_alloc _ ?_) | (with_reducible refine below_drewN ?_ _) | (with_reducible refine below_drew_step ?_) | (with_reducible assumption) | (with_reducible refine below_after (by assumption) ?_))))
    refine hK.out _ _ (fun _ => ⟨cell_step m1 c0, trivial⟩) ?_
    clear hK K k
    try simp only [Act.put, List.setIfInBounds_toArray, List.set_cons_zero, List.set_cons_succ]
    refine d_step 3 (by kernel_rfl) rfl (fun K hK => ?_)
    go_simp
    refine hK.out _ _ (fun h => by exact absurd h (by decide)) ?_
    clear hK K
    try simp only [Act.put, List.setIfInBounds_toArray, List.set_cons_zero, List.set_cons_succ]
    refine d_step 4 (by kernel_rfl) rfl (fun K hK => ?_)
    go_simp
    refine hK.out _ _ (fun h => by exact absurd h (by decide)) ?_
    clear hK K
    try simp only [Act.put, List.setIfInBounds_toArray, List.set_cons_zero, List.set_cons_succ]
    refine d_step 5 (by kernel_rfl) rfl (fun K hK => ?_)
    go_simp
    refine hK.out _ _ (fun h => by exact absurd h (by decide)) ?_
    clear hK K
    try simp only [Act.put, List.setIfInBounds_toArray, List.set_cons_zero, List.set_cons_succ]
    refine d_done (by kernel_rfl) ?_ _
    try simp only [Act.put, List.setIfInBounds_toArray, List.set_cons_zero, List.set_cons_succ]
    go_wp2_with fail
    go_meet
    exact ⟨rfl, by (repeat (first | (with_reducible exact Below.refl _ _) | (with_reducible refine below_setCell ?_ (by first | (simp; done) | (simp; omega) | omega)) | (with_reducible refine below_alloc _ ?_) | (with_reducible refine below_drewN ?_ _) | (with_reducible refine below_drew_step ?_) | (with_reducible assumption) | (with_reducible refine below_after (by assumption) ?_)))⟩
  case rest =>
    obtain ⟨rfl, m⟩ := hcut
    replace b := b.trans (m.mono b.size)
    replace c0 := cell_step m c0
    replace c1 := cell_step m c1
    replace c2 := cell_step m c2
    replace c3 := cell_step m c3
    replace c4 := cell_step m c4
    replace c5 := cell_step m c5
    replace c6 := cell_step m c6
    replace q0 := Nat.lt_of_lt_of_le q0 m.size
    clear m
    go_wp2_with fail
    refine (HT.out _ (by (repeat (first | (with_reducible exact Below.refl _ _) | (with_reducible refine below_setCell ?_ (by first | (simp; done) | (simp; omega) | omega)) | (with_reducible refine below_alloc _ ?_) | (with_reducible refine below_drewN ?_ _) | (with_reducible assumption) | (with_reducible refine below_after (by assumption) ?_))))).mono ?_
    rintro e u0 ⟨rfl, k⟩
    have m : Below wc.heap.size wc u0 := below_after k (by (repeat (first | (with_reducible exact Below.refl _ _) | (with_reducible refine below_setCell ?_ (by first | (simp; done) | (simp; omega) | omega)) | (with_reducible refine below_alloc _ ?_) | (with_reducible refine below_drewN ?_ _) | (with_reducible assumption) | (with_reducible refine below_after (by assumption) ?_))))
    replace b := b.trans (m.mono b.size)
    replace c0 := cell_step m c0
    replace c1 := cell_step m c1
    replace c2 := cell_step m c2
    replace c3 := cell_step m c3
    replace c4 := cell_step m c4
    replace c5 := cell_step m c5
    replace c6 := cell_step m c6
    replace q0 := Nat.lt_of_lt_of_le q0 m.size
    clear m k
    go_wp2
    go_ret
    exact ⟨rfl, by (repeat (first | (with_reducible exact Below.refl _ _) | (with_reducible refine below_setCell ?_ (by first | (simp; done) | (simp; omega) | omega)) | (with_reducible refine below_alloc _ ?_) | (with_reducible refine below_drewN ?_ _) | (with_reducible assumption) | (with_reducible refine below_after (by assumption) ?_)))⟩

set_option maxRecDepth 100000 in
set_option maxHeartbeats 3200000 in
/-- spec.l4Text, l4Text_4 -/
theorem l4Text_4 (T Ti L : Nat) (b1 : T ≤ 100000) (b2 : Ti ≤ 100000) (b3 : L ≤ 100000) (hTi : 0 < Ti)
    (w : World) (pr pw : Option Addr) (cr cw : Nat) (Y : Bool) :
    Calls Tryz.prog 14 #[.agg #[.int .i64 4, .int .i64 (T : Int), .int .i64 (Ti : Int), .int .i64 (L : Int), .slice pr 0 cr, .slice pw 0 cw, .bool Y]] w fun e w' => e = .returned (.string (recT 4 T Ti L [] [])) ∧ Below w.heap.size w w' := by
  have sT := numT_le (n := T) (by omega)
  have sTi := numT_le (n := Ti) (by omega)
  have sL := numT_le (n := L) (by omega)
  have HT := Lib.hid (fun W (k : Below w.heap.size w W) => l1Num_any T (by omega) W)
  have HTi := Lib.hid (fun W (k : Below w.heap.size w W) => l1Num_any Ti (by omega) W)
  have HL := Lib.hid (fun W (k : Below w.heap.size w W) => l1Num_any L (by omega) W)
  have Hh : Hid (headT 4 T Ti = (wordB 4 ++ (⟨#[32, 64]⟩ ++ numT Ti))) := Lib.hid (by simp [headT, hTi])
  have He : Hid (recT 4 T Ti L [] [] = (wordB 4 ++ (⟨#[32, 64]⟩ ++ numT Ti))) := Lib.hid (by unfold recT; rw [if_neg (by decide), Hh.out])
  rw [He.out]
  clear He Hh
  have hTiI : 0 < (Ti : Int) := by omega
  clear hTi
  have sw : (wordB 4).size ≤ 7 := by decide
  generalize numT T = tT at *
  generalize numT Ti = tTi at *
  generalize numT L = tL at *
  have z1 : (⟨#[32]⟩ : ByteArray).size = 1 := rfl
  have z2 : (⟨#[32, 64]⟩ : ByteArray).size = 2 := rfl
  have z3 : (⟨#[32, 110, 111]⟩ : ByteArray).size = 3 := rfl
  have z4 : (⟨#[32, 62]⟩ : ByteArray).size = 2 := rfl
  have hadd0 := fun W => run_string_add_sum (P := Tryz.prog) (w := W) ⟨#[32, 64]⟩ tTi (by (try simp only [ByteArray.size_append]); omega)
  have hadd1 := fun W => run_string_add_sum (P := Tryz.prog) (w := W) (wordB 4) (⟨#[32, 64]⟩ ++ tTi) (by (try simp only [ByteArray.size_append]); omega)
  have Hs : Hid ((wordB 4 ++ (⟨#[32, 64]⟩ ++ tTi)).size ≤ 1000) := Lib.hid (by (try simp only [ByteArray.size_append]); omega)
  clear sT sTi sL sw z1 z2 z3 z4
  go_enter Tryz.func14, Tryz.ntmps14
  go_wp2_with fail
  generalize hbx : World.alloc _ _ = wb
  have b : Below w.heap.size w wb := by rw [← hbx]; exact below_new _ _
  have q0 : w.heap.size < wb.heap.size := by rw [← hbx]; simp
  have c0 : wb.cell? ⟨w.heap.size, 0, none⟩ = some (.int .i64 4) := by rw [← hbx]; simp [go_sem]
  have c1 : wb.cell? ⟨w.heap.size, 1, none⟩ = some (.int .i64 (T : Int)) := by rw [← hbx]; simp [go_sem]
  have c2 : wb.cell? ⟨w.heap.size, 2, none⟩ = some (.int .i64 (Ti : Int)) := by rw [← hbx]; simp [go_sem]
  have c3 : wb.cell? ⟨w.heap.size, 3, none⟩ = some (.int .i64 (L : Int)) := by rw [← hbx]; simp [go_sem]
  have c4 : wb.cell? ⟨w.heap.size, 4, none⟩ = some (.slice pr 0 cr) := by rw [← hbx]; simp [go_sem]
  have c5 : wb.cell? ⟨w.heap.size, 5, none⟩ = some (.slice pw 0 cw) := by rw [← hbx]; simp [go_sem]
  have c6 : wb.cell? ⟨w.heap.size, 6, none⟩ = some (.bool Y) := by rw [← hbx]; simp [go_sem]
  clear hbx
  go_cut [3] (fun s wx => s = .string (wordB 4) ∧ Below wb.heap.size wb wx)
  case first =>
    refine wp_region_d 3 (fun w' => w'.cell? ⟨w.heap.size, 0, none⟩ = some (.int .i64 4) ∧ True) (by kernel_rfl) ?_
    have hS : wb.drew.cell? ⟨w.heap.size, 0, none⟩ = some (.int .i64 4) ∧ True := ⟨c0, trivial⟩
    refine d_take (f := 30) (v := ?_) 1 rfl (by kernel_rfl) (fun _ _ _ h => h) (Or.inl ⟨by rfl, ?_⟩) hS ?_
    rotate_left
    · intro wx hx
      obtain ⟨x0, x1⟩ := hx
      first | (go_simp; done) | (go_simp; with_reducible rfl)
    simp only [Act.put, List.setIfInBounds_toArray, List.set_cons_zero, List.set_cons_succ]
    refine d_take (f := 30) (v := ?_) 2 rfl (by kernel_rfl) (fun _ _ _ h => h) (Or.inl ⟨by rfl, ?_⟩) hS ?_
    rotate_left
    · intro wx hx
      obtain ⟨x0, x1⟩ := hx
      first | (go_simp; done) | (go_simp; with_reducible rfl)
    simp only [Act.put, List.setIfInBounds_toArray, List.set_cons_zero, List.set_cons_succ]
    refine d_step 0 (by kernel_rfl) rfl (fun K hK => ?_)
    go_simp
    go_at_call 10
    refine (l4Words_any _).mono ?_
    rintro e x1 ⟨N, rfl, hN, g1, g2, g3, g4, k⟩
    have m1 : Below wb.heap.size wb x1 := below_after k (by (repeat (first | (with_reducible exact Below.refl _ _) | (with_reducible refine below_setCell ?_ (by first | (simp; done) | (simp; omega) | omega)) | (with_reducible refine below_alloc _ ?_) | (with_reducible refine below_drewN ?_ _) | (with_reducible refine below_drew_step ?_) | (with_reducible assumption) | (with_reducible refine below_after (by assumption) ?_))))
    refine hK.out _ _ (fun _ => ⟨cell_step m1 c0, trivial⟩) ?_
    clear hK K k
    try simp only [Act.put, List.setIfInBounds_toArray, List.set_cons_zero, List.set_cons_succ]
    refine d_step 3 (by kernel_rfl) rfl (fun K hK => ?_)
    go_simp
    refine hK.out _ _ (fun h => by exact absurd h (by decide)) ?_
    clear hK K
    try simp only [Act.put, List.setIfInBounds_toArray, List.set_cons_zero, List.set_cons_succ]
    refine d_step 4 (by kernel_rfl) rfl (fun K hK => ?_)
    go_simp
    refine hK.out _ _ (fun h => by exact absurd h (by decide)) ?_
    clear hK K
    try simp only [Act.put, List.setIfInBounds_toArray, List.set_cons_zero, List.set_cons_succ]
    refine d_step 5 (by kernel_rfl) rfl (fun K hK => ?_)
    go_simp
    refine hK.out _ _ (fun h => by exact absurd h (by decide)) ?_
    clear hK K
    try simp only [Act.put, List.setIfInBounds_toArray, List.set_cons_zero, List.set_cons_succ]
    refine d_done (by kernel_rfl) ?_ _
    try simp only [Act.put, List.setIfInBounds_toArray, List.set_cons_zero, List.set_cons_succ]
    go_wp2_with fail
    go_meet
    exact ⟨rfl, by (repeat (first | (with_reducible exact Below.refl _ _) | (with_reducible refine below_setCell ?_ (by first | (simp; done) | (simp; omega) | omega)) | (with_reducible refine below_alloc _ ?_) | (with_reducible refine below_drewN ?_ _) | (with_reducible refine below_drew_step ?_) | (with_reducible assumption) | (with_reducible refine below_after (by assumption) ?_)))⟩
  case rest =>
    obtain ⟨rfl, m⟩ := hcut
    replace b := b.trans (m.mono b.size)
    replace c0 := cell_step m c0
    replace c1 := cell_step m c1
    replace c2 := cell_step m c2
    replace c3 := cell_step m c3
    replace c4 := cell_step m c4
    replace c5 := cell_step m c5
    replace c6 := cell_step m c6
    replace q0 := Nat.lt_of_lt_of_le q0 m.size
    clear m
    go_wp2_with fail
    refine (HTi.out _ (by (repeat (first | (with_reducible exact Below.refl _ _) | (with_reducible refine below_setCell ?_ (by first | (simp; done) | (simp; omega) | omega)) | (with_reducible refine below_alloc _ ?_) | (with_reducible refine below_drewN ?_ _) | (with_reducible assumption) | (with_reducible refine below_after (by assumption) ?_))))).mono ?_
    rintro e u0 ⟨rfl, k⟩
    have m : Below wc.heap.size wc u0 := below_after k (by (repeat (first | (with_reducible exact Below.refl _ _) | (with_reducible refine below_setCell ?_ (by first | (simp; done) | (simp; omega) | omega)) | (with_reducible refine below_alloc _ ?_) | (with_reducible refine below_drewN ?_ _) | (with_reducible assumption) | (with_reducible refine below_after (by assumption) ?_))))
    replace b := b.trans (m.mono b.size)
    replace c0 := cell_step m c0
    replace c1 := cell_step m c1
    replace c2 := cell_step m c2
    replace c3 := cell_step m c3
    replace c4 := cell_step m c4
    replace c5 := cell_step m c5
    replace c6 := cell_step m c6
    replace q0 := Nat.lt_of_lt_of_le q0 m.size
    clear m k
    go_wp2
    go_ret
    exact ⟨rfl, by (repeat (first | (with_reducible exact Below.refl _ _) | (with_reducible refine below_setCell ?_ (by first | (simp; done) | (simp; omega) | omega)) | (with_reducible refine below_alloc _ ?_) | (with_reducible refine below_drewN ?_ _) | (with_reducible assumption) | (with_reducible refine below_after (by assumption) ?_)))⟩

end Go.Proofs.YtpiheobpobclgaaGreatDoor
