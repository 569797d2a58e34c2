/- impl.ReadRecText. Printed by mkrdtxm.py. -/
import Derived.Test.YtpiheobpobclgaaGreatDoorRdTxS
import Derived.Test.YtpiheobpobclgaaGreatDoorHeld
import Derived.Deep.RegionWith
import Derived.Deep.DeepCutAuto
namespace Go.Proofs.YtpiheobpobclgaaGreatDoor
open Go.RowKit

theorem splitB_sizes (sep : ByteArray) (save : Nat) : ∀ (k : Nat) (s : ByteArray), ∀ x ∈ Lib.splitB sep save k s, x.size ≤ s.size
  | 0, s, x, h => by
    have h : x ∈ [s] := h
    rw [List.mem_singleton] at h
    rw [h]
    exact Nat.le_refl _
  | k + 1, s, x, h => by
    unfold Lib.splitB at h
    split at h
    · rw [List.mem_singleton] at h
      rw [h]
      exact Nat.le_refl _
    · rcases List.mem_cons.1 h with rfl | h
      · rw [ByteArray.size_extract]; omega
      · have := splitB_sizes sep save k _ x h
        rw [ByteArray.size_extract] at this
        omega

/-- strings.Split -/
theorem splitZ_any (s sep : ByteArray) (hs : s.size ≤ 1048576) (h1 : 1 ≤ sep.size) (w : World) (hM : MaxZ w) :
    Calls Tryz.prog 15 #[.string s, .string sep] w fun e w' => ∃ (N : Nat) (xs : List ByteArray), e = .returned (.slice (some ⟨N, 0, none⟩) xs.length xs.length) ∧ xs.map (·.data.toList) = Lib.split s.data.toList sep.data.toList ∧ (∀ x ∈ xs, x.size ≤ s.size) ∧ 0 < xs.length ∧ xs.length ≤ s.size + 1 ∧
      w.heap.size ≤ N ∧ N < w'.heap.size ∧ (∀ j (h : j < xs.length), w'.cell? ⟨N, j, none⟩ = some (.string xs[j])) ∧ Below w.heap.size w w' := by
  obtain ⟨m, hm⟩ := hM
  refine (Tryz.strings_Split s sep m w (by omega) (hm w (Below.refl _ _)) h1).mono ?_
  rintro e w' ⟨rfl, rfl⟩
  have hl := Lib.splitB_all sep h1 0 _ s rfl
  have hc := Lib.countB_le sep h1 s.size s (Nat.le_refl _)
  refine ⟨w.heap.size, Lib.splitB sep 0 (Lib.countB s sep) s, by rw [hl], ?_, splitB_sizes _ _ _ _, by omega, by omega, Nat.le_refl _, by simp, fun j h => ?_, below_new _ _⟩
  · rw [Lib.splitB_data]
    rfl
  · rw [World.cell?_alloc_mark]
    simp [h]

set_option maxRecDepth 100000 in
set_option maxHeartbeats 6400000 in
/-- impl.ReadRecText -/
theorem readRecText_any (s : ByteArray) (hs : s.size ≤ 1048576) (w : World) (hT : TabW w) (hE : ErrW w) (hM : MaxZ w) : Calls Tryz.prog 5 #[.string s] w (TxPost s w) := by
  have hsI : (s.size : Int) ≤ 1048576 := by omega
  by_cases hlen : s.size ≤ 400
  rotate_left
  · have HQ := Lib.hid (recRT_long hlen)
    have hlI : (400 : Int) < (s.size : Int) := by omega
    clear hlen hs hT hE hM
    go_enter Tryz.func5, Tryz.ntmps5
    go_wp2
    refine bodyPost_ret (v := .tuple #[.agg #[.int .i64 0, .int .i64 0, .int .i64 0, .int .i64 0, .slice none 0 0, .slice none 0 0, .bool false], .bool false]) (by simp [results, Tryz.results5, go_sem]) rfl ?_
    exact tx_zero HQ.out (by (repeat (first | (with_reducible exact Below.refl _ _) | (with_reducible refine below_setCell ?_ (by first | (simp; done) | (simp; omega) | omega)) | (with_reducible refine below_alloc _ ?_) | (with_reducible refine below_drewN ?_ _) | (with_reducible assumption) | (with_reducible refine below_after (by assumption) ?_))))
  have hlI : (s.size : Int) ≤ 400 := by omega
  have HQ0 := Lib.hid ((recRT_le hlen).trans (recR_I s))
  have Hle := Lib.hid hlen
  have Hsp := Lib.hid (fun W (b : Below w.heap.size w W) => splitZ_any s ⟨#[32]⟩ hs (by decide) W (hM.on b))
  have HT := Lib.hid hT
  have HE := Lib.hid hE
  have HM := Lib.hid hM
  clear hlen hs hT hE hM
  go_enter Tryz.func5, Tryz.ntmps5
  go_wp2_with fail
  refine (Hsp.out _ (by (repeat (first | (with_reducible exact Below.refl _ _) | (with_reducible refine below_setCell ?_ (by first | (simp; done) | (simp; omega) | omega)) | (with_reducible refine below_alloc _ ?_) | (with_reducible refine below_drewN ?_ _) | (with_reducible assumption) | (with_reducible refine below_after (by assumption) ?_))))).mono ?_
  rintro e w1 ⟨N, xs, rfl, hx, hxs, hpos, hpn, hN0, hN, hc, k1⟩
  have Z := Lib.hid ((Blk.new w 25 #[.int .i64 0, .int .i64 0, .int .i64 0, .int .i64 0, .slice none 0 0, .slice none 0 0, .bool false]).below k1)
  have b1 : Below w.heap.size w w1 := below_after k1 (by (repeat (first | (with_reducible exact Below.refl _ _) | (with_reducible refine below_setCell ?_ (by first | (simp; done) | (simp; omega) | omega)) | (with_reducible refine below_alloc _ ?_) | (with_reducible refine below_drewN ?_ _) | (with_reducible assumption) | (with_reducible refine below_after (by assumption) ?_))))
  have q1 : w.heap.size < w1.heap.size := Z.out.lt
  have hN1 : w.heap.size < N := by simp at hN0; omega
  have Hx : Hid ((Lib.split s.data.toList [32]).map (fun p => (⟨p.toArray⟩ : ByteArray)) = xs) := Lib.hid (by
    rw [show (Lib.split s.data.toList [32]) = xs.map (·.data.toList) from hx.symm, List.map_map]
    have e3 : ((fun p : List UInt8 => (⟨p.toArray⟩ : ByteArray)) ∘ fun s : ByteArray => s.data.toList) = id := funext fun s => mk_list s
    rw [e3, List.map_id])
  have HQ : Hid (recRT s = match resI xs with | none => (zeroR 0, false) | some x => if goodRB x = true ∧ recTx x = s then (x, true) else (zeroR 0, false)) := Lib.hid (by rw [← Hx.out]; exact HQ0.out)
  have Hsz : Hid (∀ x ∈ xs, x.size ≤ 400) := Lib.hid fun x h => Nat.le_trans (hxs x h) Hle.out
  have HC := Lib.hid hc
  have hnb : xs.length ≤ 401 := by have := Hle.out; omega
  obtain ⟨u, hu⟩ : ∃ u, xs[0] = u := ⟨_, rfl⟩
  have c0 : w1.cell? ⟨N, 0, none⟩ = some (.string u) := by rw [← hu]; exact HC.out 0 hpos
  have Hg0 : Hid (xs.getD 0 ⟨#[]⟩ = u) := Lib.hid (by rw [List.getD_eq_getElem?_getD, List.getElem?_eq_getElem hpos, hu]; rfl)
  obtain ⟨m, hn⟩ : ∃ m, xs.length = m + 1 := ⟨xs.length - 1, by omega⟩
  have Hn := Lib.hid hn
  rw [hn] at hpos hnb ⊢
  have hpI : (0 : Int) < ((m + 1 : Nat) : Int) := by omega
  have hpI1 : (1 : Int) ≤ ((m + 1 : Nat) : Int) := by omega
  obtain ⟨KK, hKK⟩ : ∃ K, Lib.idxOfS wordBs u = K := ⟨_, rfl⟩
  have Hres0 : Hid (resI xs = foldI (zeroR KK) (xs.drop 1)) := Lib.hid (by unfold resI; rw [Hg0.out, hKK])
  have Hidx := Lib.hid (fun (M : Nat) W h => hKK ▸ idxWordsR_any M u W h)
  clear hx hxs hpn hN0 hc k1 hu hn hKK Hsp HQ0 Hx Hg0 Hle
  go_upto_region 4 with fail
  go_cut [5] (fun s5 wx => ∃ B, s5 = .pointer (some ⟨B, 0, none⟩) ∧ w1.heap.size ≤ B ∧ Hid (Blk wx B 25 #[.int .i64 KK, .int .i64 0, .int .i64 0, .int .i64 0, .slice none 0 0, .slice none 0 0, .bool false]) ∧ Below w1.heap.size w1 wx)
  case first =>
    refine wp_region_d 7 (fun w' => w'.cell? ⟨N, 0, none⟩ = some (.string u) ∧ w'.cell? ⟨N, 0, none⟩ = some (.string u)) (by kernel_rfl) ?_
    obtain ⟨wd, hwd⟩ : ∃ wd, w1.drew = wd := ⟨_, rfl⟩
    have md : Below w1.heap.size w1 wd := by rw [← hwd]; exact (Below.refl _ _).drew
    rw [hwd]
    clear hwd
    have hS : wd.cell? ⟨N, 0, none⟩ = some (.string u) ∧ wd.cell? ⟨N, 0, none⟩ = some (.string u) := ⟨cell_step md c0, cell_step md c0⟩
    refine d_take (f := 30) (v := ?_) 1 rfl (by kernel_rfl) (fun _ _ _ h => h) (Or.inl ⟨by rfl, ?_⟩) hS ?_
    rotate_left
    · intro wx hx
      obtain ⟨x0, x1⟩ := hx
      first | (go_simp; done) | (go_simp; with_reducible rfl)
    simp only [Act.put, List.setIfInBounds_toArray, List.set_cons_zero, List.set_cons_succ]
    refine d_take (f := 30) (v := ?_) 2 rfl (by kernel_rfl) (fun _ _ _ h => h) (Or.inl ⟨by rfl, ?_⟩) hS ?_
    rotate_left
    · intro wx hx
      obtain ⟨x0, x1⟩ := hx
      first | (go_simp; done) | (go_simp; with_reducible rfl)
    simp only [Act.put, List.setIfInBounds_toArray, List.set_cons_zero, List.set_cons_succ]
    refine d_take (f := 30) (v := ?_) 3 rfl (by kernel_rfl) (fun _ _ _ h => h) (Or.inl ⟨by rfl, ?_⟩) hS ?_
    rotate_left
    · intro wx hx
      obtain ⟨x0, x1⟩ := hx
      first | (go_simp; done) | (go_simp; with_reducible rfl)
    simp only [Act.put, List.setIfInBounds_toArray, List.set_cons_zero, List.set_cons_succ]
    refine d_two 0 6 (by kernel_rfl) rfl rfl (fun K hK => ?_) (fun K hK => ?_)
    · skip
      go_simp
      go_at_call 17
      refine (recWords5_any _).mono ?_
      rintro e w3 ⟨N2, rfl, hN20, hN21, hwd, k3⟩
      have m3 : Below w1.heap.size w1 w3 := below_after k3 md
      have HWd := Lib.hid hwd
      have hS3 : w3.cell? ⟨N, 0, none⟩ = some (.string u) ∧ w3.cell? ⟨N, 0, none⟩ = some (.string u) := ⟨cell_step m3 c0, cell_step m3 c0⟩
      refine hK.out _ _ (fun _ => hS3) ?_
      clear hK K hwd k3
      try simp only [Act.put, List.setIfInBounds_toArray, List.set_cons_zero, List.set_cons_succ]
      refine d_two 4 6 (by kernel_rfl) rfl rfl (fun K hK => ?_) (fun K hK => ?_)
      · skip
        go_simp
        go_at_call 16
        refine (Hidx.out _ _ HWd.out).mono ?_
        rintro e w4 ⟨rfl, rfl⟩
        refine hK.out _ _ (fun _ => hS3) ?_
        clear hK K
        try simp only [Act.put, List.setIfInBounds_toArray, List.set_cons_zero, List.set_cons_succ]
        refine d_takeY (v := ?_) 5 rfl (by kernel_rfl) (fun _ _ _ h => h) (Or.inl ⟨by rfl, ?_⟩) hS3 ?_
        rotate_left
        · intro wx _
          first | (go_simp; done) | (go_simp; with_reducible rfl)
        simp only [Act.put, List.setIfInBounds_toArray, List.set_cons_zero, List.set_cons_succ]
        refine d_step 6 (by kernel_rfl) rfl (fun K hK => ?_)
        go_simp
        generalize hA : World.alloc _ _ = wA
        have D : Blk wA w3.heap.size 25 #[.int .i64 0, .int .i64 0, .int .i64 0, .int .i64 0, .slice none 0 0, .slice none 0 0, .bool false] := by rw [← hA]; exact Blk.new _ _ _
        have mA : Below w1.heap.size w1 wA := by rw [← hA]; exact below_alloc _ m3
        have mA3 : Below w3.heap.size w3 wA := by rw [← hA]; exact below_new _ _
        have hBlo : w1.heap.size ≤ w3.heap.size := (m3).size
        have hS4 : wA.cell? ⟨N, 0, none⟩ = some (.string u) ∧ wA.cell? ⟨N, 0, none⟩ = some (.string u) := ⟨cell_step mA c0, cell_step mA c0⟩
        clear hA
        refine hK.out _ _ (fun _ => hS4) ?_
        clear hK K
        try simp only [Act.put, List.setIfInBounds_toArray, List.set_cons_zero, List.set_cons_succ]
        have e0 := D.cell 0 (v := .int .i64 0) rfl
        have e1 := D.cell 1 (v := .int .i64 0) rfl
        have e2 := D.cell 2 (v := .int .i64 0) rfl
        have e3 := D.cell 3 (v := .int .i64 0) rfl
        have e4 := D.cell 4 (v := .slice none 0 0) rfl
        have e5 := D.cell 5 (v := .slice none 0 0) rfl
        have e6 := D.cell 6 (v := .bool false) rfl
        have g0 := D.frozen 0
        have g1 := D.frozen 1
        have g2 := D.frozen 2
        have g3 := D.frozen 3
        have g4 := D.frozen 4
        have g5 := D.frozen 5
        have g6 := D.frozen 6
        refine d_step 7 (by kernel_rfl) rfl (fun K hK => ?_)
        go_simp
        refine hK.out _ _ (fun h => by exact absurd h (by decide)) ?_
        clear hK K
        refine d_done (by kernel_rfl) ?_ _
        try simp only [Act.put, List.setIfInBounds_toArray, List.set_cons_zero, List.set_cons_succ]
        go_wp2_with fail
        go_meet
        exact ⟨_, rfl, hBlo, Lib.hid (by have := (((((((D.set 0 (.int .i64 KK)).set 1 (.int .i64 0)).set 2 (.int .i64 0)).set 3 (.int .i64 0)).set 4 (.slice none 0 0)).set 5 (.slice none 0 0)).set 6 (.bool false)); simpa using this), by (repeat (first | (with_reducible exact Below.refl _ _) | (with_reducible refine below_setCell ?_ (by first | (simp; done) | (simp; omega) | omega)) | (with_reducible refine below_alloc _ ?_) | (with_reducible refine below_drewN ?_ _) | (with_reducible assumption) | (with_reducible refine below_after (by assumption) ?_)))⟩
      · skip
        go_simp
        generalize hA : World.alloc _ _ = wA
        have D : Blk wA w3.heap.size 25 #[.int .i64 0, .int .i64 0, .int .i64 0, .int .i64 0, .slice none 0 0, .slice none 0 0, .bool false] := by rw [← hA]; exact Blk.new _ _ _
        have mA : Below w1.heap.size w1 wA := by rw [← hA]; exact below_alloc _ m3
        have mA3 : Below w3.heap.size w3 wA := by rw [← hA]; exact below_new _ _
        have hBlo : w1.heap.size ≤ w3.heap.size := (m3).size
        have hS4 : wA.cell? ⟨N, 0, none⟩ = some (.string u) ∧ wA.cell? ⟨N, 0, none⟩ = some (.string u) := ⟨cell_step mA c0, cell_step mA c0⟩
        clear hA
        refine hK.out _ _ (fun _ => hS4) ?_
        clear hK K
        try simp only [Act.put, List.setIfInBounds_toArray, List.set_cons_zero, List.set_cons_succ]
        replace HWd : Hid (∀ j, j < 5 → wA.cell? ⟨N2, j, none⟩ = some (.string (wordBs.getD j ⟨#[]⟩))) := Lib.hid fun j hj => (mA3.cell (p := ⟨N2, j, none⟩) hN21).trans (HWd.out j hj)
        refine d_step 4 (by kernel_rfl) rfl (fun K hK => ?_)
        go_simp
        go_at_call 16
        refine (Hidx.out _ _ HWd.out).mono ?_
        rintro e w4 ⟨rfl, rfl⟩
        refine hK.out _ _ (fun _ => hS4) ?_
        clear hK K
        try simp only [Act.put, List.setIfInBounds_toArray, List.set_cons_zero, List.set_cons_succ]
        refine d_takeY (v := ?_) 5 rfl (by kernel_rfl) (fun _ _ _ h => h) (Or.inl ⟨by rfl, ?_⟩) hS4 ?_
        rotate_left
        · intro wx _
          first | (go_simp; done) | (go_simp; with_reducible rfl)
        simp only [Act.put, List.setIfInBounds_toArray, List.set_cons_zero, List.set_cons_succ]
        have e0 := D.cell 0 (v := .int .i64 0) rfl
        have e1 := D.cell 1 (v := .int .i64 0) rfl
        have e2 := D.cell 2 (v := .int .i64 0) rfl
        have e3 := D.cell 3 (v := .int .i64 0) rfl
        have e4 := D.cell 4 (v := .slice none 0 0) rfl
        have e5 := D.cell 5 (v := .slice none 0 0) rfl
        have e6 := D.cell 6 (v := .bool false) rfl
        have g0 := D.frozen 0
        have g1 := D.frozen 1
        have g2 := D.frozen 2
        have g3 := D.frozen 3
        have g4 := D.frozen 4
        have g5 := D.frozen 5
        have g6 := D.frozen 6
        refine d_step 7 (by kernel_rfl) rfl (fun K hK => ?_)
        go_simp
        refine hK.out _ _ (fun h => by exact absurd h (by decide)) ?_
        clear hK K
        refine d_done (by kernel_rfl) ?_ _
        try simp only [Act.put, List.setIfInBounds_toArray, List.set_cons_zero, List.set_cons_succ]
        go_wp2_with fail
        go_meet
        exact ⟨_, rfl, hBlo, Lib.hid (by have := (((((((D.set 0 (.int .i64 KK)).set 1 (.int .i64 0)).set 2 (.int .i64 0)).set 3 (.int .i64 0)).set 4 (.slice none 0 0)).set 5 (.slice none 0 0)).set 6 (.bool false)); simpa using this), by (repeat (first | (with_reducible exact Below.refl _ _) | (with_reducible refine below_setCell ?_ (by first | (simp; done) | (simp; omega) | omega)) | (with_reducible refine below_alloc _ ?_) | (with_reducible refine below_drewN ?_ _) | (with_reducible assumption) | (with_reducible refine below_after (by assumption) ?_)))⟩
    · skip
      go_simp
      generalize hA : World.alloc _ _ = wA
      have D : Blk wA wd.heap.size 25 #[.int .i64 0, .int .i64 0, .int .i64 0, .int .i64 0, .slice none 0 0, .slice none 0 0, .bool false] := by rw [← hA]; exact Blk.new _ _ _
      have mA : Below w1.heap.size w1 wA := by rw [← hA]; exact below_alloc _ md
      have mA3 : Below wd.heap.size wd wA := by rw [← hA]; exact below_new _ _
      have hBlo : w1.heap.size ≤ wd.heap.size := (md).size
      have hS4 : wA.cell? ⟨N, 0, none⟩ = some (.string u) ∧ wA.cell? ⟨N, 0, none⟩ = some (.string u) := ⟨cell_step mA c0, cell_step mA c0⟩
      clear hA
      refine hK.out _ _ (fun _ => hS4) ?_
      clear hK K
      try simp only [Act.put, List.setIfInBounds_toArray, List.set_cons_zero, List.set_cons_succ]
      refine d_step 0 (by kernel_rfl) rfl (fun K hK => ?_)
      go_simp
      go_at_call 17
      refine (recWords5_any _).mono ?_
      rintro e w3 ⟨N2, rfl, hN20, hN21, hwd, k3⟩
      have m3 : Below w1.heap.size w1 w3 := below_after k3 mA
      have HWd := Lib.hid hwd
      have hS3 : w3.cell? ⟨N, 0, none⟩ = some (.string u) ∧ w3.cell? ⟨N, 0, none⟩ = some (.string u) := ⟨cell_step m3 c0, cell_step m3 c0⟩
      refine hK.out _ _ (fun _ => hS3) ?_
      replace D := D.below k3
      clear hK K hwd k3
      try simp only [Act.put, List.setIfInBounds_toArray, List.set_cons_zero, List.set_cons_succ]
      refine d_step 4 (by kernel_rfl) rfl (fun K hK => ?_)
      go_simp
      go_at_call 16
      refine (Hidx.out _ _ HWd.out).mono ?_
      rintro e w4 ⟨rfl, rfl⟩
      refine hK.out _ _ (fun _ => hS3) ?_
      clear hK K
      try simp only [Act.put, List.setIfInBounds_toArray, List.set_cons_zero, List.set_cons_succ]
      refine d_takeY (v := ?_) 5 rfl (by kernel_rfl) (fun _ _ _ h => h) (Or.inl ⟨by rfl, ?_⟩) hS3 ?_
      rotate_left
      · intro wx _
        first | (go_simp; done) | (go_simp; with_reducible rfl)
      simp only [Act.put, List.setIfInBounds_toArray, List.set_cons_zero, List.set_cons_succ]
      have e0 := D.cell 0 (v := .int .i64 0) rfl
      have e1 := D.cell 1 (v := .int .i64 0) rfl
      have e2 := D.cell 2 (v := .int .i64 0) rfl
      have e3 := D.cell 3 (v := .int .i64 0) rfl
      have e4 := D.cell 4 (v := .slice none 0 0) rfl
      have e5 := D.cell 5 (v := .slice none 0 0) rfl
      have e6 := D.cell 6 (v := .bool false) rfl
      have g0 := D.frozen 0
      have g1 := D.frozen 1
      have g2 := D.frozen 2
      have g3 := D.frozen 3
      have g4 := D.frozen 4
      have g5 := D.frozen 5
      have g6 := D.frozen 6
      refine d_step 7 (by kernel_rfl) rfl (fun K hK => ?_)
      go_simp
      refine hK.out _ _ (fun h => by exact absurd h (by decide)) ?_
      clear hK K
      refine d_done (by kernel_rfl) ?_ _
      try simp only [Act.put, List.setIfInBounds_toArray, List.set_cons_zero, List.set_cons_succ]
      go_wp2_with fail
      go_meet
      exact ⟨_, rfl, hBlo, Lib.hid (by have := (((((((D.set 0 (.int .i64 KK)).set 1 (.int .i64 0)).set 2 (.int .i64 0)).set 3 (.int .i64 0)).set 4 (.slice none 0 0)).set 5 (.slice none 0 0)).set 6 (.bool false)); simpa using this), by (repeat (first | (with_reducible exact Below.refl _ _) | (with_reducible refine below_setCell ?_ (by first | (simp; done) | (simp; omega) | omega)) | (with_reducible refine below_alloc _ ?_) | (with_reducible refine below_drewN ?_ _) | (with_reducible assumption) | (with_reducible refine below_after (by assumption) ?_)))⟩
  case rest =>
    obtain ⟨B, rfl, hBlo, HCc, bc⟩ := hcut
    have HZc := Lib.hid (Z.out.below bc)
    obtain ⟨r0, Hr0⟩ : ∃ r0 : RecD, Hid (zeroR KK = r0) := ⟨_, Lib.hid rfl⟩
    obtain ⟨ys, hys⟩ : ∃ ys, xs.drop 1 = ys := ⟨_, rfl⟩
    have Hres : Hid (resI xs = foldI r0 ys) := Lib.hid (by rw [Hres0.out, hys, Hr0.out])
    have Hyl : Hid (ys.length = m) := Lib.hid (by rw [← hys, List.length_drop, Hn.out]; rfl)
    have Hyc : Hid (∀ j (h : j < ys.length), w1.cell? ⟨N, 1 + j, none⟩ = some (.string ys[j])) := Lib.hid (by
      subst hys
      intro j h
      rw [List.length_drop] at h
      have := HC.out (1 + j) (by omega)
      rw [List.getElem_drop]
      exact this)
    have Hyz : Hid (∀ y ∈ ys, y.size ≤ 400) := Lib.hid fun y h => Hsz.out y (by rw [← hys] at h; exact List.mem_of_mem_drop h)
    have HT0 : Hid (Blk wc B 25 #[.int .i64 r0.Kind, .int .i64 r0.Txn, .int .i64 r0.Time, .int .i64 r0.Lead, .slice none 0 0, .slice none 0 0, .bool r0.Yes]) := Lib.hid (by rw [← Hr0.out]; exact HCc.out)
    have H00 : Hid (r0.Reads = [] ∧ r0.Writes = []) := Lib.hid (by rw [← Hr0.out]; exact ⟨rfl, rfl⟩)
    have hlb : m ≤ 400 := by omega
    have hmI : (1 : Int) ≤ (m : Int) + 1 := by omega
    clear hys HC HCc Hsz Hr0 Hn Hres0 Hidx Z c0
    go_upto_region 5 with fail
    obtain ⟨wo, hwo⟩ : ∃ wo, wo = wc := ⟨_, rfl⟩
    go_cut [21, 22, 23] (fun s21 s22 s23 wx => ∃ pp, s21 = .slice pp m m ∧ s22 = .int .i64 (m : Int) ∧ s23 = .int .i64 0 ∧ Hid (0 < m → pp = some ⟨N, 1, none⟩) ∧ wx = wo)
    case first =>
      by_cases hm0 : m = 0
      · subst hm0
        go_wp2_with fail
        go_meet
        exact ⟨_, rfl, rfl, rfl, Lib.hid fun h => absurd h (Nat.lt_irrefl 0), hwo.symm⟩
      · go_wp2_with fail
        go_meet
        exact ⟨_, rfl, rfl, rfl, Lib.hid fun h => rfl, hwo.symm⟩
    case rest =>
    obtain ⟨pp, rfl, rfl, rfl, Hpp, hwc⟩ := hcut
    subst hwo hwc
    go_wp2_with fail
    go_loopw [23] (fun i wr => ∃ (k : Nat) (r : RecD) (pR : Option Addr) (nR cR : Nat) (pW : Option Addr) (nW cW : Nat), i = .int .i64 (k : Int) ∧ k ≤ m ∧ Hid (foldI r (ys.drop k) = foldI r0 ys) ∧ Hid (r.Reads.length = nR) ∧ Hid (r.Writes.length = nW) ∧ nR ≤ k ∧ nW ≤ k ∧ Hid (Blk wr B 25 #[.int .i64 r.Kind, .int .i64 r.Txn, .int .i64 r.Time, .int .i64 r.Lead, .slice pR nR cR, .slice pW nW cW, .bool r.Yes]) ∧ Hid (Blk wr w.heap.size 25 #[.int .i64 0, .int .i64 0, .int .i64 0, .int .i64 0, .slice none 0 0, .slice none 0 0, .bool false]) ∧ Hid (RowsOf wr (B + 1) (.slice pR nR cR) (.slice pW nW cW) r.Reads r.Writes) ∧ Below w1.heap.size w1 wr) (fun i _ => m - (RowKit.intOf i).toNat)
    case atStart => exact ⟨0, r0, none, 0, 0, none, 0, 0, rfl, Nat.zero_le _, Lib.hid rfl, Lib.hid (by rw [H00.out.1]; rfl), Lib.hid (by rw [H00.out.2]; rfl), Nat.le_refl _, Nat.le_refl _, HT0, HZc, Lib.hid (by rw [H00.out.1, H00.out.2]; exact rows_start _ _), bc⟩
    case round =>
          obtain ⟨k, ⟨rK, rT, rTi, rL, rR, rW, rY⟩, pR, nR, cR, pW, nW, cW, rfl, hk, Hr, HnR, HnW, hlR, hlW, HCb, HZb, HR, hb⟩ := hrel
          clear HT0 H00 HZc bc
          replace HnR : Hid (rR.length = nR) := HnR
          replace HnW : Hid (rW.length = nW) := HnW
          replace HR : Hid (RowsOf wr (B + 1) (.slice pR nR cR) (.slice pW nW cW) rR rW) := HR
          replace HCb : Hid (Blk wr B 25 #[.int .i64 rK, .int .i64 rT, .int .i64 rTi, .int .i64 rL, .slice pR nR cR, .slice pW nW cW, .bool rY]) := HCb
          have zz : B < wr.heap.size := HCb.out.lt
          have bw : Below w.heap.size w wr := b1.trans (hb.mono b1.size)
          have d0 := HCb.out.cell 0 (v := .int .i64 rK) rfl
          have d1 := HCb.out.cell 1 (v := .int .i64 rT) rfl
          have d2 := HCb.out.cell 2 (v := .int .i64 rTi) rfl
          have d3 := HCb.out.cell 3 (v := .int .i64 rL) rfl
          have d4 := HCb.out.cell 4 (v := .slice pR nR cR) rfl
          have d5 := HCb.out.cell 5 (v := .slice pW nW cW) rfl
          have d6 := HCb.out.cell 6 (v := .bool rY) rfl
          have f0 := HCb.out.frozen 0
          have f1 := HCb.out.frozen 1
          have f2 := HCb.out.frozen 2
          have f3 := HCb.out.frozen 3
          have f4 := HCb.out.frozen 4
          have f5 := HCb.out.frozen 5
          have f6 := HCb.out.frozen 6
          by_cases hlt : k < m
          · have hltI : (k : Int) < (m : Int) := by omega
            obtain rfl := Hpp.out (by omega)
            have hky : k < ys.length := by have := Hyl.out; omega
            have hcell : wr.cell? ⟨N, 1 + k, none⟩ = some (.string ys[k]) := (hb.cell (p := ⟨N, 1 + k, none⟩) hN).trans (Hyc.out k hky)
            have Hsome := Lib.hid (fun (b : RecD) (h : stepI ⟨rK, rT, rTi, rL, rR, rW, rY⟩ ys[k] = some b) => foldI_drop (r := ⟨rK, rT, rTi, rL, rR, rW, rY⟩) (b := b) hky h)
            have Hnone := Lib.hid (foldI_none (r := ⟨rK, rT, rTi, rL, rR, rW, rY⟩) hky)
            have Hlen := Lib.hid (fun (b : RecD) (h : stepI ⟨rK, rT, rTi, rL, rR, rW, rY⟩ ys[k] = some b) => stepI_len (r := ⟨rK, rT, rTi, rL, rR, rW, rY⟩) (b := b) (s := ys[k]) h)
            have hxs : ys[k].size ≤ 400 := Hyz.out _ (List.getElem_mem _)
            generalize ys[k] = x at *
            have hw := readWord_any rK rT rTi rL rR rW rY x hxs (by rw [HnR.out]; omega) (by rw [HnW.out]; omega) w wr B (B + 1) pR pW cR cW (by rw [HnR.out, HnW.out]; exact HCb.out) (Nat.lt_succ_self _) (by omega) (by omega) bw HT.out HE.out HM.out (by rw [HnR.out, HnW.out]; exact HR.out)
            obtain ⟨o2, ho2⟩ : ∃ o2, stepI ⟨rK, rT, rTi, rL, rR, rW, rY⟩ x = o2 := ⟨_, rfl⟩
            rw [ho2] at hw Hsome Hnone Hlen
            have Hw := Lib.hid hw
            clear hw ho2 hxs hky
            go_wp2_with fail
            refine Hw.out.mono ?_
            rintro e w4 ⟨hb4, h4⟩
            have HZ4 : Hid (Blk w4 w.heap.size 25 #[.int .i64 0, .int .i64 0, .int .i64 0, .int .i64 0, .slice none 0 0, .slice none 0 0, .bool false]) := Lib.hid (HZb.out.belowB hb4 (by omega))
            have b4 : Below w1.heap.size w1 w4 := hb.trans (hb4.mono (by omega))
            have b5 : Below w.heap.size w w4 := b1.trans (b4.mono b1.size)
            have HZ5 := HZ4
            have zz4 : w.heap.size < w4.heap.size := HZ4.out.lt
            clear HZb Hw hcell hb4 d0 f0 d1 f1 d2 f2 d3 f3 d4 f4 d5 f5 d6 f6
            rcases h4 with ⟨ho, rfl⟩ | ⟨r2, qR, dR, qW, dW, ho, rfl, hB4, hR4⟩
            · have HF : Hid (recRT s = (zeroR 0, false)) := Lib.hid (by rw [HQ.out, Hres.out, ← Hr.out, Hnone.out ho])
              have g0 := HZ5.out.frozen 0
              have g1 := HZ5.out.frozen 1
              have g2 := HZ5.out.frozen 2
              have g3 := HZ5.out.frozen 3
              have g4 := HZ5.out.frozen 4
              have g5 := HZ5.out.frozen 5
              have g6 := HZ5.out.frozen 6
              have y0 := HZ5.out.cell 0 (v := .int .i64 0) rfl
              have y1 := HZ5.out.cell 1 (v := .int .i64 0) rfl
              have y2 := HZ5.out.cell 2 (v := .int .i64 0) rfl
              have y3 := HZ5.out.cell 3 (v := .int .i64 0) rfl
              have y4 := HZ5.out.cell 4 (v := .slice none 0 0) rfl
              have y5 := HZ5.out.cell 5 (v := .slice none 0 0) rfl
              have y6 := HZ5.out.cell 6 (v := .bool false) rfl
              go_wp2
              clear g0 g1 g2 g3 g4 g5 g6 y0 y1 y2 y3 y4 y5 y6
              generalize hw9 : World.setCell _ _ _ = w9
              have BZ9 : Blk w9 w.heap.size 25 #[.int .i64 0, .int .i64 0, .int .i64 0, .int .i64 0, .slice none 0 0, .slice none 0 0, .bool false] := by rw [← hw9]; have := (((((((HZ5.out.set 0 (.int .i64 0)).set 1 (.int .i64 0)).set 2 (.int .i64 0)).set 3 (.int .i64 0)).set 4 (.slice none 0 0)).set 5 (.slice none 0 0)).set 6 (.bool false)); simpa using this
              have b9 : Below w.heap.size w w9 := by rw [← hw9]; exact (((((((b5.setCell (Nat.le_refl _) _).setCell (Nat.le_refl _) _).setCell (Nat.le_refl _) _).setCell (Nat.le_refl _) _).setCell (Nat.le_refl _) _).setCell (Nat.le_refl _) _).setCell (Nat.le_refl _) _)
              clear hw9
              have z0 := BZ9.cell 0 (v := .int .i64 0) rfl
              have z1 := BZ9.cell 1 (v := .int .i64 0) rfl
              have z2 := BZ9.cell 2 (v := .int .i64 0) rfl
              have z3 := BZ9.cell 3 (v := .int .i64 0) rfl
              have z4 := BZ9.cell 4 (v := .slice none 0 0) rfl
              have z5 := BZ9.cell 5 (v := .slice none 0 0) rfl
              have z6 := BZ9.cell 6 (v := .bool false) rfl
              have g0 := BZ9.frozen 0
              have g1 := BZ9.frozen 1
              have g2 := BZ9.frozen 2
              have g3 := BZ9.frozen 3
              have g4 := BZ9.frozen 4
              have g5 := BZ9.frozen 5
              have g6 := BZ9.frozen 6
              refine bodyPost_ret (v := .tuple #[.agg #[.int .i64 0, .int .i64 0, .int .i64 0, .int .i64 0, .slice none 0 0, .slice none 0 0, .bool false], .bool false]) (by simp [results, Tryz.results5, go_sem, z0, g0, z1, g1, z2, g2, z3, g3, z4, g4, z5, g5, z6, g6]) rfl ?_
              exact tx_zero HF.out b9
            · have Hr2 : Hid (foldI r2 (ys.drop (k + 1)) = foldI r0 ys) := Lib.hid ((Hsome.out r2 ho).symm.trans Hr.out)
              have Hl2 := Lib.hid (Hlen.out r2 ho)
              have HC4 := Lib.hid hB4
              have HR4 := Lib.hid hR4
              have Hl3 : Hid (r2.Reads.length ≤ k + 1 ∧ r2.Writes.length ≤ k + 1) := Lib.hid (by have h1 := Hl2.out; have h2 : rR.length = nR := HnR.out; have h3 : rW.length = nW := HnW.out; (try dsimp only at h1); omega)
              clear hB4 hR4 Hsome Hnone Hlen Hr
              go_wp2
              go_roundw
              case rel => exact ⟨k + 1, r2, qR, _, dR, qW, _, dW, by go_num, by omega, Hr2, Lib.hid rfl, Lib.hid rfl, Hl3.out.1, Hl3.out.2, HC4, HZ4, HR4, b4⟩
              case measure => simp [RowKit.intOf]; omega
          · have hltI : (m : Int) ≤ (k : Int) := by omega
            obtain rfl : k = m := by omega
            have Hre : Hid (resI xs = some ⟨rK, rT, rTi, rL, rR, rW, rY⟩) := Lib.hid (by rw [Hres.out, ← Hr.out, List.drop_of_length_le (by rw [Hyl.out]; exact Nat.le_refl _)]; rfl)
            have hg := fun (W : World) (b : Below wr.heap.size wr W) => goodRec_any ⟨rK, rT, rTi, rL, rR, rW, rY⟩ (by rw [HnR.out]; omega) (by rw [HnW.out]; omega) W (.slice pR rR.length cR) (.slice pW rW.length cW) (by have := (HR.out.below b).rd.1; rw [HnR.out]; exact this) (by have := (HR.out.below b).rd.2; rw [HnW.out]; exact this)
            have ht := fun (hq : goodRB ⟨rK, rT, rTi, rL, rR, rW, rY⟩ = true) (W : World) (b : Below wr.heap.size wr W) => recText_any hq (Nat.le_trans (goodRB_cost hq) (by decide)) W (HT.out.on (below_after b bw)) pR pW cR cW (by have := (HR.out.below b).rd.1; rw [HnR.out]; exact this) (by have := (HR.out.below b).rd.2; rw [HnW.out]; exact this)
            have HQ2 := HQ.out
            rw [Hre.out] at HQ2
            dsimp only at HQ2
            have HQ3 := Lib.hid HQ2
            have Ht0 : Hid (recT rK rT.toNat rTi.toNat rL.toNat rR rW = recTx ⟨rK, rT, rTi, rL, rR, rW, rY⟩) := Lib.hid rfl
            dsimp only at hg ht
            rw [HnR.out, HnW.out] at hg
            rw [HnR.out, HnW.out, Ht0.out] at ht
            generalize recTx ⟨rK, rT, rTi, rL, rR, rW, rY⟩ = tx at *
            generalize goodRB ⟨rK, rT, rTi, rL, rR, rW, rY⟩ = q at *
            have Hg := Lib.hid hg
            have Ht := Lib.hid ht
            clear hg ht HQ2 HQ Hre Ht0 Hres Hr Hyc Hyz
            cases q
            · have HF : Hid (recRT s = (zeroR 0, false)) := Lib.hid (by rw [HQ3.out]; exact if_neg (fun h => by cases h.1))
              clear HQ3 Ht
              go_wp2_with fail
              refine (Hg.out _ (Below.refl _ _)).mono ?_
              rintro e w2 ⟨rfl, k2⟩
              have HC5 := Lib.hid (HCb.out.below k2)
              have HZ5 := Lib.hid (HZb.out.below k2)
              have HR5 := Lib.hid (HR.out.below k2)
              have b5 : Below w.heap.size w w2 := below_after k2 bw
              clear k2 HCb HZb HR d0 f0 d1 f1 d2 f2 d3 f3 d4 f4 d5 f5 d6 f6
              have d0 := HC5.out.cell 0 (v := .int .i64 rK) rfl
              have d1 := HC5.out.cell 1 (v := .int .i64 rT) rfl
              have d2 := HC5.out.cell 2 (v := .int .i64 rTi) rfl
              have d3 := HC5.out.cell 3 (v := .int .i64 rL) rfl
              have d4 := HC5.out.cell 4 (v := .slice pR nR cR) rfl
              have d5 := HC5.out.cell 5 (v := .slice pW nW cW) rfl
              have d6 := HC5.out.cell 6 (v := .bool rY) rfl
              have f0 := HC5.out.frozen 0
              have f1 := HC5.out.frozen 1
              have f2 := HC5.out.frozen 2
              have f3 := HC5.out.frozen 3
              have f4 := HC5.out.frozen 4
              have f5 := HC5.out.frozen 5
              have f6 := HC5.out.frozen 6
              have g0 := HZ5.out.frozen 0
              have g1 := HZ5.out.frozen 1
              have g2 := HZ5.out.frozen 2
              have g3 := HZ5.out.frozen 3
              have g4 := HZ5.out.frozen 4
              have g5 := HZ5.out.frozen 5
              have g6 := HZ5.out.frozen 6
              have y0 := HZ5.out.cell 0 (v := .int .i64 0) rfl
              have y1 := HZ5.out.cell 1 (v := .int .i64 0) rfl
              have y2 := HZ5.out.cell 2 (v := .int .i64 0) rfl
              have y3 := HZ5.out.cell 3 (v := .int .i64 0) rfl
              have y4 := HZ5.out.cell 4 (v := .slice none 0 0) rfl
              have y5 := HZ5.out.cell 5 (v := .slice none 0 0) rfl
              have y6 := HZ5.out.cell 6 (v := .bool false) rfl
              go_wp2
              clear d0 d1 d2 d3 d4 d5 d6 f0 f1 f2 f3 f4 f5 f6 g0 g1 g2 g3 g4 g5 g6 y0 y1 y2 y3 y4 y5 y6
              generalize hw9 : World.setCell _ _ _ = w9
              have BZ9 : Blk w9 w.heap.size 25 #[.int .i64 0, .int .i64 0, .int .i64 0, .int .i64 0, .slice none 0 0, .slice none 0 0, .bool false] := by rw [← hw9]; have := (((((((HZ5.out.set 0 (.int .i64 0)).set 1 (.int .i64 0)).set 2 (.int .i64 0)).set 3 (.int .i64 0)).set 4 (.slice none 0 0)).set 5 (.slice none 0 0)).set 6 (.bool false)); simpa using this
              have b9 : Below w.heap.size w w9 := by rw [← hw9]; exact (((((((b5.setCell (Nat.le_refl _) _).setCell (Nat.le_refl _) _).setCell (Nat.le_refl _) _).setCell (Nat.le_refl _) _).setCell (Nat.le_refl _) _).setCell (Nat.le_refl _) _).setCell (Nat.le_refl _) _)
              clear hw9
              have z0 := BZ9.cell 0 (v := .int .i64 0) rfl
              have z1 := BZ9.cell 1 (v := .int .i64 0) rfl
              have z2 := BZ9.cell 2 (v := .int .i64 0) rfl
              have z3 := BZ9.cell 3 (v := .int .i64 0) rfl
              have z4 := BZ9.cell 4 (v := .slice none 0 0) rfl
              have z5 := BZ9.cell 5 (v := .slice none 0 0) rfl
              have z6 := BZ9.cell 6 (v := .bool false) rfl
              have g0 := BZ9.frozen 0
              have g1 := BZ9.frozen 1
              have g2 := BZ9.frozen 2
              have g3 := BZ9.frozen 3
              have g4 := BZ9.frozen 4
              have g5 := BZ9.frozen 5
              have g6 := BZ9.frozen 6
              refine bodyPost_ret (v := .tuple #[.agg #[.int .i64 0, .int .i64 0, .int .i64 0, .int .i64 0, .slice none 0 0, .slice none 0 0, .bool false], .bool false]) (by simp [results, Tryz.results5, go_sem, z0, g0, z1, g1, z2, g2, z3, g3, z4, g4, z5, g5, z6, g6]) rfl ?_
              exact tx_zero HF.out b9
            · go_wp2_with fail
              refine (Hg.out _ (Below.refl _ _)).mono ?_
              rintro e w2 ⟨rfl, k2⟩
              have HC5 := Lib.hid (HCb.out.below k2)
              have HZ5 := Lib.hid (HZb.out.below k2)
              have HR5 := Lib.hid (HR.out.below k2)
              have b5 : Below w.heap.size w w2 := below_after k2 bw
              clear HCb HZb HR d0 f0 d1 f1 d2 f2 d3 f3 d4 f4 d5 f5 d6 f6
              have d0 := HC5.out.cell 0 (v := .int .i64 rK) rfl
              have d1 := HC5.out.cell 1 (v := .int .i64 rT) rfl
              have d2 := HC5.out.cell 2 (v := .int .i64 rTi) rfl
              have d3 := HC5.out.cell 3 (v := .int .i64 rL) rfl
              have d4 := HC5.out.cell 4 (v := .slice pR nR cR) rfl
              have d5 := HC5.out.cell 5 (v := .slice pW nW cW) rfl
              have d6 := HC5.out.cell 6 (v := .bool rY) rfl
              have f0 := HC5.out.frozen 0
              have f1 := HC5.out.frozen 1
              have f2 := HC5.out.frozen 2
              have f3 := HC5.out.frozen 3
              have f4 := HC5.out.frozen 4
              have f5 := HC5.out.frozen 5
              have f6 := HC5.out.frozen 6
              have g0 := HZ5.out.frozen 0
              have g1 := HZ5.out.frozen 1
              have g2 := HZ5.out.frozen 2
              have g3 := HZ5.out.frozen 3
              have g4 := HZ5.out.frozen 4
              have g5 := HZ5.out.frozen 5
              have g6 := HZ5.out.frozen 6
              have y0 := HZ5.out.cell 0 (v := .int .i64 0) rfl
              have y1 := HZ5.out.cell 1 (v := .int .i64 0) rfl
              have y2 := HZ5.out.cell 2 (v := .int .i64 0) rfl
              have y3 := HZ5.out.cell 3 (v := .int .i64 0) rfl
              have y4 := HZ5.out.cell 4 (v := .slice none 0 0) rfl
              have y5 := HZ5.out.cell 5 (v := .slice none 0 0) rfl
              have y6 := HZ5.out.cell 6 (v := .bool false) rfl
              have Ht2 := Lib.hid (Ht.out (by first | exact rfl | exact trivial) _ k2)
              clear k2
              by_cases hq : tx = s
              · have HF : Hid (recRT s = (⟨rK, rT, rTi, rL, rR, rW, rY⟩, true)) := Lib.hid (by rw [HQ3.out]; exact if_pos ⟨(by first | exact rfl | exact trivial), hq⟩)
                subst hq
                clear HQ3 Ht Hg
                go_wp2_with fail
                refine Ht2.out.mono ?_
                rintro e w3 ⟨rfl, k3⟩
                clear d0 f0 g0 y0 d1 f1 g1 y1 d2 f2 g2 y2 d3 f3 g3 y3 d4 f4 g4 y4 d5 f5 g5 y5 d6 f6 g6 y6
                have HC5 := Lib.hid (HC5.out.below k3)
                have HZ5 := Lib.hid (HZ5.out.below k3)
                have HR5 := Lib.hid (HR5.out.below k3)
                have b5 : Below w.heap.size w w3 := below_after k3 b5
                clear k3
                have d0 := HC5.out.cell 0 (v := .int .i64 rK) rfl
                have d1 := HC5.out.cell 1 (v := .int .i64 rT) rfl
                have d2 := HC5.out.cell 2 (v := .int .i64 rTi) rfl
                have d3 := HC5.out.cell 3 (v := .int .i64 rL) rfl
                have d4 := HC5.out.cell 4 (v := .slice pR nR cR) rfl
                have d5 := HC5.out.cell 5 (v := .slice pW nW cW) rfl
                have d6 := HC5.out.cell 6 (v := .bool rY) rfl
                have f0 := HC5.out.frozen 0
                have f1 := HC5.out.frozen 1
                have f2 := HC5.out.frozen 2
                have f3 := HC5.out.frozen 3
                have f4 := HC5.out.frozen 4
                have f5 := HC5.out.frozen 5
                have f6 := HC5.out.frozen 6
                have g0 := HZ5.out.frozen 0
                have g1 := HZ5.out.frozen 1
                have g2 := HZ5.out.frozen 2
                have g3 := HZ5.out.frozen 3
                have g4 := HZ5.out.frozen 4
                have g5 := HZ5.out.frozen 5
                have g6 := HZ5.out.frozen 6
                have y0 := HZ5.out.cell 0 (v := .int .i64 0) rfl
                have y1 := HZ5.out.cell 1 (v := .int .i64 0) rfl
                have y2 := HZ5.out.cell 2 (v := .int .i64 0) rfl
                have y3 := HZ5.out.cell 3 (v := .int .i64 0) rfl
                have y4 := HZ5.out.cell 4 (v := .slice none 0 0) rfl
                have y5 := HZ5.out.cell 5 (v := .slice none 0 0) rfl
                have y6 := HZ5.out.cell 6 (v := .bool false) rfl
                go_wp2
                clear d0 d1 d2 d3 d4 d5 d6 f0 f1 f2 f3 f4 f5 f6 g0 g1 g2 g3 g4 g5 g6 y0 y1 y2 y3 y4 y5 y6
                generalize hw9 : World.setCell _ _ _ = w9
                have BZ9 : Blk w9 w.heap.size 25 #[.int .i64 rK, .int .i64 rT, .int .i64 rTi, .int .i64 rL, .slice pR nR cR, .slice pW nW cW, .bool rY] := by rw [← hw9]; have := (((((((HZ5.out.set 0 (.int .i64 rK)).set 1 (.int .i64 rT)).set 2 (.int .i64 rTi)).set 3 (.int .i64 rL)).set 4 (.slice pR nR cR)).set 5 (.slice pW nW cW)).set 6 (.bool rY)); simpa using this
                have b9 : Below w.heap.size w w9 := by rw [← hw9]; exact (((((((b5.setCell (Nat.le_refl _) _).setCell (Nat.le_refl _) _).setCell (Nat.le_refl _) _).setCell (Nat.le_refl _) _).setCell (Nat.le_refl _) _).setCell (Nat.le_refl _) _).setCell (Nat.le_refl _) _)
                have HR9 := rows_twain HR5.out HC5.out HZ5.out (w' := w9) (by rw [← hw9]; exact (by refine Twain.set ?_ (Or.inr rfl); refine Twain.set ?_ (Or.inr rfl); refine Twain.set ?_ (Or.inr rfl); refine Twain.set ?_ (Or.inr rfl); refine Twain.set ?_ (Or.inr rfl); refine Twain.set ?_ (Or.inr rfl); refine Twain.set ?_ (Or.inr rfl); exact Twain.refl _ _ _))
                clear hw9
                have z0 := BZ9.cell 0 (v := .int .i64 rK) rfl
                have z1 := BZ9.cell 1 (v := .int .i64 rT) rfl
                have z2 := BZ9.cell 2 (v := .int .i64 rTi) rfl
                have z3 := BZ9.cell 3 (v := .int .i64 rL) rfl
                have z4 := BZ9.cell 4 (v := .slice pR nR cR) rfl
                have z5 := BZ9.cell 5 (v := .slice pW nW cW) rfl
                have z6 := BZ9.cell 6 (v := .bool rY) rfl
                have g0 := BZ9.frozen 0
                have g1 := BZ9.frozen 1
                have g2 := BZ9.frozen 2
                have g3 := BZ9.frozen 3
                have g4 := BZ9.frozen 4
                have g5 := BZ9.frozen 5
                have g6 := BZ9.frozen 6
                refine bodyPost_ret (v := .tuple #[.agg #[.int .i64 rK, .int .i64 rT, .int .i64 rTi, .int .i64 rL, .slice pR nR cR, .slice pW nW cW, .bool rY], .bool true]) (by simp [results, Tryz.results5, go_sem, z0, g0, z1, g1, z2, g2, z3, g3, z4, g4, z5, g5, z6, g6]) rfl ?_
                exact tx_yes HF.out HnR.out HnW.out HR9 (by omega) b9
              · have HF : Hid (recRT s = (zeroR 0, false)) := Lib.hid (by rw [HQ3.out]; exact if_neg (fun h => hq h.2))
                have hqs := str_ne hq
                clear HQ3 Ht Hg hq
                go_wp2_with fail
                refine Ht2.out.mono ?_
                rintro e w3 ⟨rfl, k3⟩
                clear d0 f0 g0 y0 d1 f1 g1 y1 d2 f2 g2 y2 d3 f3 g3 y3 d4 f4 g4 y4 d5 f5 g5 y5 d6 f6 g6 y6
                have HC5 := Lib.hid (HC5.out.below k3)
                have HZ5 := Lib.hid (HZ5.out.below k3)
                have HR5 := Lib.hid (HR5.out.below k3)
                have b5 : Below w.heap.size w w3 := below_after k3 b5
                clear k3
                have d0 := HC5.out.cell 0 (v := .int .i64 rK) rfl
                have d1 := HC5.out.cell 1 (v := .int .i64 rT) rfl
                have d2 := HC5.out.cell 2 (v := .int .i64 rTi) rfl
                have d3 := HC5.out.cell 3 (v := .int .i64 rL) rfl
                have d4 := HC5.out.cell 4 (v := .slice pR nR cR) rfl
                have d5 := HC5.out.cell 5 (v := .slice pW nW cW) rfl
                have d6 := HC5.out.cell 6 (v := .bool rY) rfl
                have f0 := HC5.out.frozen 0
                have f1 := HC5.out.frozen 1
                have f2 := HC5.out.frozen 2
                have f3 := HC5.out.frozen 3
                have f4 := HC5.out.frozen 4
                have f5 := HC5.out.frozen 5
                have f6 := HC5.out.frozen 6
                have g0 := HZ5.out.frozen 0
                have g1 := HZ5.out.frozen 1
                have g2 := HZ5.out.frozen 2
                have g3 := HZ5.out.frozen 3
                have g4 := HZ5.out.frozen 4
                have g5 := HZ5.out.frozen 5
                have g6 := HZ5.out.frozen 6
                have y0 := HZ5.out.cell 0 (v := .int .i64 0) rfl
                have y1 := HZ5.out.cell 1 (v := .int .i64 0) rfl
                have y2 := HZ5.out.cell 2 (v := .int .i64 0) rfl
                have y3 := HZ5.out.cell 3 (v := .int .i64 0) rfl
                have y4 := HZ5.out.cell 4 (v := .slice none 0 0) rfl
                have y5 := HZ5.out.cell 5 (v := .slice none 0 0) rfl
                have y6 := HZ5.out.cell 6 (v := .bool false) rfl
                go_wp2
                clear d0 d1 d2 d3 d4 d5 d6 f0 f1 f2 f3 f4 f5 f6 g0 g1 g2 g3 g4 g5 g6 y0 y1 y2 y3 y4 y5 y6
                generalize hw9 : World.setCell _ _ _ = w9
                have BZ9 : Blk w9 w.heap.size 25 #[.int .i64 0, .int .i64 0, .int .i64 0, .int .i64 0, .slice none 0 0, .slice none 0 0, .bool false] := by rw [← hw9]; have := (((((((HZ5.out.set 0 (.int .i64 0)).set 1 (.int .i64 0)).set 2 (.int .i64 0)).set 3 (.int .i64 0)).set 4 (.slice none 0 0)).set 5 (.slice none 0 0)).set 6 (.bool false)); simpa using this
                have b9 : Below w.heap.size w w9 := by rw [← hw9]; exact (((((((b5.setCell (Nat.le_refl _) _).setCell (Nat.le_refl _) _).setCell (Nat.le_refl _) _).setCell (Nat.le_refl _) _).setCell (Nat.le_refl _) _).setCell (Nat.le_refl _) _).setCell (Nat.le_refl _) _)
                clear hw9
                have z0 := BZ9.cell 0 (v := .int .i64 0) rfl
                have z1 := BZ9.cell 1 (v := .int .i64 0) rfl
                have z2 := BZ9.cell 2 (v := .int .i64 0) rfl
                have z3 := BZ9.cell 3 (v := .int .i64 0) rfl
                have z4 := BZ9.cell 4 (v := .slice none 0 0) rfl
                have z5 := BZ9.cell 5 (v := .slice none 0 0) rfl
                have z6 := BZ9.cell 6 (v := .bool false) rfl
                have g0 := BZ9.frozen 0
                have g1 := BZ9.frozen 1
                have g2 := BZ9.frozen 2
                have g3 := BZ9.frozen 3
                have g4 := BZ9.frozen 4
                have g5 := BZ9.frozen 5
                have g6 := BZ9.frozen 6
                refine bodyPost_ret (v := .tuple #[.agg #[.int .i64 0, .int .i64 0, .int .i64 0, .int .i64 0, .slice none 0 0, .slice none 0 0, .bool false], .bool false]) (by simp [results, Tryz.results5, go_sem, z0, g0, z1, g1, z2, g2, z3, g3, z4, g4, z5, g5, z6, g6]) rfl ?_
                exact tx_zero HF.out b9


end Go.Proofs.YtpiheobpobclgaaGreatDoor
