/- impl.opsText. Printed by mkopst.py. -/
import Derived.Test.YtpiheobpobclgaaDoorOpsT1
namespace Go.Proofs.YtpiheobpobclgaaDoor
open Go.RowKit

/-- strings.Join of the texts. -/
theorem joinOps_any {wr : World} {base g0 k cap0 : Nat} {l : List OpD} (ho : Own Cod.str wr base (.slice (some ⟨g0, 0, none⟩) k cap0) (l.map opT)) (hk : l.length = k) (hk8 : k ≤ 8) (hs : (opsS l).size ≤ 9000000) :
    Calls Tryd.prog 57 #[.slice (some ⟨g0, 0, none⟩) k cap0, .string ⟨#[59, 32]⟩] wr fun e w' => e = .returned (.string (opsS l)) ∧ Below wr.heap.size wr w' := by
  obtain ⟨p1, c1, hv, hcap, _, rr⟩ := ho.rd.form
  have hm : (l.map opT).length = k := by rw [List.length_map]; exact hk
  injection hv with e1 e2 e3
  subst e1
  subst e3
  by_cases h0 : 0 < (l.map opT).length
  · obtain ⟨g1, o1, hp, hg1, hc1⟩ := rr h0
    injection hp with hp
    injection hp with hp1 hp2
    subst hp1
    subst hp2
    have hj := join_opsS l
    have hlen : (Lib.join ((l.map opT).map (·.data.toList)) [59, 32]).length ≤ 140737488355328 := by
      have h1 : (opsS l).size = (Lib.join ((l.map opT).map (·.data.toList)) [59, 32]).length := by rw [← hj]; simp [ByteArray.size]
      omega
    have hcl : ∀ (j : Nat) x, (l.map opT)[j]? = some x → wr.cell? ⟨g0, 0 + j, none⟩ = some (.string x) := fun j x hj => by
      obtain ⟨hj1, rfl⟩ := List.getElem?_eq_some_iff.1 hj
      obtain ⟨f, h, _⟩ := hc1 j hj1
      have h2 : wr.cell? ⟨g0, 0 + j * 1 + 0, none⟩ = some (.string (l.map opT)[j]) := h
      rwa [Nat.mul_one] at h2
    generalize hxs : l.map opT = xs at *
    have := Tryd.strings_Join g0 0 cap0 xs ⟨#[59, 32]⟩ wr hcl hg1 (by omega) hcap hlen
    rw [hm, hj] at this
    exact this
  · have hl0 : l = [] := List.eq_nil_of_length_eq_zero (by rw [hm] at h0; omega)
    have hk0 : k = 0 := by rw [hl0] at hk; exact hk.symm
    rw [hk0, hl0]
    refine (Tryd.strings_Join_none _ _ _ wr).mono ?_
    rintro e w' ⟨rfl, rfl⟩
    exact ⟨rfl, Below.refl _ _⟩

set_option maxRecDepth 100000 in
set_option maxHeartbeats 6400000 in
/-- impl.opsText -/
theorem opsText_any (v : Value) (l : List OpD) (hl : costOpS l ≤ 1048576) (hq : goodOB l = true) (w : World) (hTab : TabW w) (h : Rd Cod.op w v l) :
    Calls Tryd.prog 28 #[v] w fun e w' => e = .returned (.string (opsS l)) ∧ Below w.heap.size w w' := by
  obtain ⟨i0, hi, hz0, hz1, hz2⟩ := info_parts Tryd_info_str
  obtain ⟨h8, hgood⟩ := goodOB_parts hq
  have HG := Lib.hid hgood
  have HL := Lib.hid (fun x (hx : x ∈ l) => costOp_get hl hx)
  have HT := Lib.hid (fun (n : Int) (h0 : -1000000 ≤ n) (h1 : n ≤ 1000000) W (k : Below w.heap.size w W) => itoaI_any n h0 h1 W (hTab.on k))
  obtain ⟨p, c, rfl, _, _, r⟩ := h.form
  have R := Lib.hid r
  clear r h hl hq hgood hTab
  obtain ⟨n, hn⟩ : ∃ n : Nat, l.length = n := ⟨_, rfl⟩
  have Hn := Lib.hid hn
  have hnb : (n : Int) ≤ 8 := by omega
  rw [hn]
  clear hn h8
  go_enter Tryd.func28, Tryd.ntmps28
  go_wp2
  go_loopw [3, 10] (fun a i wr => ∃ (k g cap : Nat), i = .int .i64 (k : Int) ∧ k ≤ n ∧ a = .slice (some ⟨g, 0, none⟩) k cap ∧ Hid (Part Cod.str wr w.heap.size 9 (.slice (some ⟨g, 0, none⟩) k cap) k ((l.take k).map opT)) ∧ Below w.heap.size w wr) (fun _ i _ => n - (intOf i).toNat)
  case atStart => exact ⟨0, w.heap.size, 0, rfl, Nat.zero_le _, rfl, Lib.hid ⟨_, part_start (made0O rfl (Nat.le_refl _))⟩, by (repeat (first | (with_reducible exact Below.refl _ _) | (with_reducible refine below_setCell ?_ (by first | (simp; done) | (simp; omega) | omega)) | (with_reducible refine below_alloc _ ?_) | (with_reducible refine below_drewN ?_ _) | (with_reducible assumption) | (with_reducible refine below_after (by assumption) ?_)))⟩
  case round =>
    obtain ⟨k, g0, cap0, rfl, hk, rfl, Hp, hb⟩ := hrel
    have hbs := hb.size
    by_cases hlt : k < n
    · have hlt2 : (k : Int) < (n : Int) := by omega
      have hkl : k < l.length := by have := Hn.out; omega
      obtain ⟨g, o, rfl, hg, hc⟩ := R.out (by have := Hn.out; omega)
      have at0 := (hc k hkl).below hg hb
      have Ht2 : Hid (l.take (k + 1) = l.take k ++ [l[k]]) := Lib.hid (List.take_succ_eq_append_getElem hkl)
      have hlen : ((l.take k).map opT).length = k := by rw [List.length_map, List.length_take]; omega
      obtain ⟨hKK, hB0, hB1⟩ := opB_parts (HG.out l[k] (List.getElem_mem hkl))
      have hsz := HL.out l[k] (List.getElem_mem hkl)
      obtain ⟨x, es⟩ : ∃ x, l[k] = x := ⟨_, rfl⟩
      rw [es] at at0 Ht2 hKK hB0 hB1 hsz
      clear hc es hkl
      obtain ⟨d0, d1, d2, d3, z0, zk, z2, z3⟩ := at_op at0
      rw [show o + k * Cod.op.size = o + k * 4 from rfl] at *
      clear at0 z0 z2 z3
      obtain ⟨xK, xKey, xVal, xBy⟩ := x
      dsimp only at *
      obtain ⟨cells, Pc⟩ := Hp.out
      have Hlen := Lib.hid hlen
      have Pc := Lib.hid Pc
      have HKK := Lib.hid hKK
      have Hroom : Hid ((k + 1) * 16 ≤ room) := Lib.hid (by unfold room; omega)
      clear Hp hlen hKK
      have hsw := wordO_size xK
      have hsi := intT_le (n := xBy) (by omega) (by omega)
      have HB := Lib.hid (HT.out xBy (by omega) (by omega))
      have y1 : (⟨#[32]⟩ : ByteArray).size = 1 := rfl
      have HH := Lib.hid (show headO ⟨xK, xKey, xVal, xBy⟩ = (wordO xK ++ ⟨#[32]⟩) ++ xKey from rfl)
      have ha0 := fun W => run_string_add_sum (P := Tryd.prog) (w := W) (wordO xK) ⟨#[32]⟩ (by (try simp only [ByteArray.size_append]); omega)
      have ha1 := fun W => run_string_add_sum (P := Tryd.prog) (w := W) (wordO xK ++ ⟨#[32]⟩) xKey (by (try simp only [ByteArray.size_append]); omega)
      have ha2 := fun W => run_string_add_sum (P := Tryd.prog) (w := W) ⟨#[32]⟩ xVal (by (try simp only [ByteArray.size_append]); omega)
      have ha3 := fun W => run_string_add_sum (P := Tryd.prog) (w := W) ((wordO xK ++ ⟨#[32]⟩) ++ xKey) (⟨#[32]⟩ ++ xVal) (by (try simp only [ByteArray.size_append]); omega)
      have ha4 := fun W => run_string_add_sum (P := Tryd.prog) (w := W) ⟨#[32]⟩ (intT xBy) (by (try simp only [ByteArray.size_append]); omega)
      have ha5 := fun W => run_string_add_sum (P := Tryd.prog) (w := W) ((wordO xK ++ ⟨#[32]⟩) ++ xKey) (⟨#[32]⟩ ++ intT xBy) (by (try simp only [ByteArray.size_append]); omega)
      have Hz : Hid ((((wordO xK ++ ⟨#[32]⟩) ++ xKey) ++ (⟨#[32]⟩ ++ xVal)).size ≤ 2000000 ∧ (((wordO xK ++ ⟨#[32]⟩) ++ xKey) ++ (⟨#[32]⟩ ++ intT xBy)).size ≤ 2000000) := Lib.hid (by simp only [ByteArray.size_append]; omega)
      have HTB : Hid (opT ⟨xK, xKey, xVal, xBy⟩ = opT ⟨xK, xKey, xVal, xBy⟩) := Lib.hid rfl
      clear hsw hsi hsz y1 hB0 hB1 HTB
      obtain ⟨tBy, HtB⟩ : ∃ t, Hid (intT xBy = t) := ⟨_, Lib.hid rfl⟩
      rw [HtB.out] at HB Hz ha4 ha5
      obtain ⟨hd, Hhd⟩ : ∃ t, Hid ((wordO xK ++ ⟨#[32]⟩) ++ xKey = t) := ⟨_, Lib.hid rfl⟩
      rw [Hhd.out] at ha1 ha3 ha5 Hz HH
      obtain ⟨tV, HtV⟩ : ∃ t, Hid (hd ++ (⟨#[32]⟩ ++ xVal) = t) := ⟨_, Lib.hid rfl⟩
      obtain ⟨tX, HtX⟩ : ∃ t, Hid (hd ++ (⟨#[32]⟩ ++ tBy) = t) := ⟨_, Lib.hid rfl⟩
      have HzH : Hid (hd.size ≤ 2000000) := Lib.hid (by have := Hz.out.1; rw [ByteArray.size_append] at this; omega)
      rw [HtV.out] at ha3 Hz
      rw [HtX.out] at ha5 Hz
      go_upto_region 5 with fail
      generalize hbx : World.alloc _ _ = wb
      have bw : Below wr.heap.size wr wb := by rw [← hbx]; exact below_new _ _
      have b : Below w.heap.size w wb := hb.trans (bw.mono hbs)
      have q0 : wr.heap.size < wb.heap.size := by rw [← hbx]; simp
      have c0 : wb.cell? ⟨wr.heap.size, 0, none⟩ = some (.int .i64 xK) := by rw [← hbx]; simp [go_sem]
      have c1 : wb.cell? ⟨wr.heap.size, 1, none⟩ = some (.string xKey) := by rw [← hbx]; simp [go_sem]
      have c2 : wb.cell? ⟨wr.heap.size, 2, none⟩ = some (.string xVal) := by rw [← hbx]; simp [go_sem]
      have c3 : wb.cell? ⟨wr.heap.size, 3, none⟩ = some (.int .i64 xBy) := by rw [← hbx]; simp [go_sem]
      clear hbx d0 d1 d2 d3
      go_cut [6] (fun s wx => s = .string hd ∧ Below wb.heap.size wb wx)
      case first =>
        have hKK := HKK.out
        clear HKK ha2 ha3 ha4 ha5 HH Ht2 HtV HtX HtB Hz HzH HB HG HL HT Hhd
        rcases hKK with rfl | rfl | rfl | rfl | rfl | rfl | rfl
        · skip
          refine wp_region_d 8 (fun w' => w'.cell? ⟨wr.heap.size, 0, none⟩ = some (.int .i64 1) ∧ w'.cell? ⟨wr.heap.size, 1, none⟩ = some (.string xKey)) (by kernel_rfl) ?_
          have hS : wb.drew.cell? ⟨wr.heap.size, 0, none⟩ = some (.int .i64 1) ∧ wb.drew.cell? ⟨wr.heap.size, 1, none⟩ = some (.string xKey) := ⟨c0, c1⟩
          refine d_take (f := 30) (v := ?_) 1 rfl (by kernel_rfl) (fun _ _ _ h => h) (Or.inl ⟨by rfl, ?_⟩) hS ?_
          rotate_left
          · intro wx hx
            obtain ⟨x0, x1⟩ := hx
            first | (go_simp; done) | (go_simp; with_reducible rfl)
          simp only [Act.put, List.setIfInBounds_toArray, List.set_cons_zero, List.set_cons_succ]
          refine d_take (f := 30) (v := ?_) 2 rfl (by kernel_rfl) (fun _ _ _ h => h) (Or.inl ⟨by rfl, ?_⟩) hS ?_
          rotate_left
          · intro wx hx
            obtain ⟨x0, x1⟩ := hx
            first | (go_simp; done) | (go_simp; with_reducible rfl)
          simp only [Act.put, List.setIfInBounds_toArray, List.set_cons_zero, List.set_cons_succ]
          refine d_take (f := 30) (v := ?_) 6 rfl (by kernel_rfl) (fun _ _ _ h => h) (Or.inl ⟨by rfl, ?_⟩) hS ?_
          rotate_left
          · intro wx hx
            obtain ⟨x0, x1⟩ := hx
            first | (go_simp; done) | (go_simp; with_reducible rfl)
          simp only [Act.put, List.setIfInBounds_toArray, List.set_cons_zero, List.set_cons_succ]
          refine d_take (f := 30) (v := ?_) 7 rfl (by kernel_rfl) (fun _ _ _ h => h) (Or.inl ⟨by rfl, ?_⟩) hS ?_
          rotate_left
          · intro wx hx
            obtain ⟨x0, x1⟩ := hx
            first | (go_simp; done) | (go_simp; with_reducible rfl)
          simp only [Act.put, List.setIfInBounds_toArray, List.set_cons_zero, List.set_cons_succ]
          refine d_step 0 (by kernel_rfl) rfl (fun K hK => ?_)
          go_simp
          go_at_call 46
          refine (opWords_any _).mono ?_
          rintro e x1 ⟨N, rfl, hN, g1, g2, g3, g4, g5, g6, g7, k⟩
          have m1 : Below wb.heap.size wb x1 := below_after k (by (repeat (first | (with_reducible exact Below.refl _ _) | (with_reducible refine below_setCell ?_ (by first | (simp; done) | (simp; omega) | omega)) | (with_reducible refine below_alloc _ ?_) | (with_reducible refine below_drewN ?_ _) | (with_reducible refine below_drew_step ?_) | (with_reducible assumption) | (with_reducible refine below_after (by assumption) ?_))))
          refine hK.out _ _ (fun _ => ⟨cell_step m1 c0, cell_step m1 c1⟩) ?_
          clear hK K k
          try simp only [Act.put, List.setIfInBounds_toArray, List.set_cons_zero, List.set_cons_succ]
          refine d_step 3 (by kernel_rfl) rfl (fun K hK => ?_)
          go_simp
          refine hK.out _ _ (fun _ => ⟨cell_step m1 c0, cell_step m1 c1⟩) ?_
          clear hK K
          try simp only [Act.put, List.setIfInBounds_toArray, List.set_cons_zero, List.set_cons_succ]
          refine d_step 4 (by kernel_rfl) rfl (fun K hK => ?_)
          go_simp
          refine hK.out _ _ (fun _ => ⟨cell_step m1 c0, cell_step m1 c1⟩) ?_
          clear hK K
          try simp only [Act.put, List.setIfInBounds_toArray, List.set_cons_zero, List.set_cons_succ]
          refine d_step 5 (by kernel_rfl) rfl (fun K hK => ?_)
          go_simp
          refine hK.out _ _ (fun _ => ⟨cell_step m1 c0, cell_step m1 c1⟩) ?_
          clear hK K
          try simp only [Act.put, List.setIfInBounds_toArray, List.set_cons_zero, List.set_cons_succ]
          refine d_step 8 (by kernel_rfl) rfl (fun K hK => ?_)
          go_simp
          refine hK.out _ _ (fun h => by exact absurd h (by decide)) ?_
          clear hK K
          try simp only [Act.put, List.setIfInBounds_toArray, List.set_cons_zero, List.set_cons_succ]
          refine d_step 9 (by kernel_rfl) rfl (fun K hK => ?_)
          go_simp
          refine hK.out _ _ (fun h => by exact absurd h (by decide)) ?_
          clear hK K
          try simp only [Act.put, List.setIfInBounds_toArray, List.set_cons_zero, List.set_cons_succ]
          refine d_done (by kernel_rfl) ?_ _
          try simp only [Act.put, List.setIfInBounds_toArray, List.set_cons_zero, List.set_cons_succ]
          go_wp2_with fail
          go_meet
          exact ⟨rfl, by (repeat (first | (with_reducible exact Below.refl _ _) | (with_reducible refine below_setCell ?_ (by first | (simp; done) | (simp; omega) | omega)) | (with_reducible refine below_alloc _ ?_) | (with_reducible refine below_drewN ?_ _) | (with_reducible refine below_drew_step ?_) | (with_reducible assumption) | (with_reducible refine below_after (by assumption) ?_)))⟩
        · skip
          refine wp_region_d 8 (fun w' => w'.cell? ⟨wr.heap.size, 0, none⟩ = some (.int .i64 2) ∧ w'.cell? ⟨wr.heap.size, 1, none⟩ = some (.string xKey)) (by kernel_rfl) ?_
          have hS : wb.drew.cell? ⟨wr.heap.size, 0, none⟩ = some (.int .i64 2) ∧ wb.drew.cell? ⟨wr.heap.size, 1, none⟩ = some (.string xKey) := ⟨c0, c1⟩
          refine d_take (f := 30) (v := ?_) 1 rfl (by kernel_rfl) (fun _ _ _ h => h) (Or.inl ⟨by rfl, ?_⟩) hS ?_
          rotate_left
          · intro wx hx
            obtain ⟨x0, x1⟩ := hx
            first | (go_simp; done) | (go_simp; with_reducible rfl)
          simp only [Act.put, List.setIfInBounds_toArray, List.set_cons_zero, List.set_cons_succ]
          refine d_take (f := 30) (v := ?_) 2 rfl (by kernel_rfl) (fun _ _ _ h => h) (Or.inl ⟨by rfl, ?_⟩) hS ?_
          rotate_left
          · intro wx hx
            obtain ⟨x0, x1⟩ := hx
            first | (go_simp; done) | (go_simp; with_reducible rfl)
          simp only [Act.put, List.setIfInBounds_toArray, List.set_cons_zero, List.set_cons_succ]
          refine d_take (f := 30) (v := ?_) 6 rfl (by kernel_rfl) (fun _ _ _ h => h) (Or.inl ⟨by rfl, ?_⟩) hS ?_
          rotate_left
          · intro wx hx
            obtain ⟨x0, x1⟩ := hx
            first | (go_simp; done) | (go_simp; with_reducible rfl)
          simp only [Act.put, List.setIfInBounds_toArray, List.set_cons_zero, List.set_cons_succ]
          refine d_take (f := 30) (v := ?_) 7 rfl (by kernel_rfl) (fun _ _ _ h => h) (Or.inl ⟨by rfl, ?_⟩) hS ?_
          rotate_left
          · intro wx hx
            obtain ⟨x0, x1⟩ := hx
            first | (go_simp; done) | (go_simp; with_reducible rfl)
          simp only [Act.put, List.setIfInBounds_toArray, List.set_cons_zero, List.set_cons_succ]
          refine d_step 0 (by kernel_rfl) rfl (fun K hK => ?_)
          go_simp
          go_at_call 46
          refine (opWords_any _).mono ?_
          rintro e x1 ⟨N, rfl, hN, g1, g2, g3, g4, g5, g6, g7, k⟩
          have m1 : Below wb.heap.size wb x1 := below_after k (by (repeat (first | (with_reducible exact Below.refl _ _) | (with_reducible refine below_setCell ?_ (by first | (simp; done) | (simp; omega) | omega)) | (with_reducible refine below_alloc _ ?_) | (with_reducible refine below_drewN ?_ _) | (with_reducible refine below_drew_step ?_) | (with_reducible assumption) | (with_reducible refine below_after (by assumption) ?_))))
          refine hK.out _ _ (fun _ => ⟨cell_step m1 c0, cell_step m1 c1⟩) ?_
          clear hK K k
          try simp only [Act.put, List.setIfInBounds_toArray, List.set_cons_zero, List.set_cons_succ]
          refine d_step 3 (by kernel_rfl) rfl (fun K hK => ?_)
          go_simp
          refine hK.out _ _ (fun _ => ⟨cell_step m1 c0, cell_step m1 c1⟩) ?_
          clear hK K
          try simp only [Act.put, List.setIfInBounds_toArray, List.set_cons_zero, List.set_cons_succ]
          refine d_step 4 (by kernel_rfl) rfl (fun K hK => ?_)
          go_simp
          refine hK.out _ _ (fun _ => ⟨cell_step m1 c0, cell_step m1 c1⟩) ?_
          clear hK K
          try simp only [Act.put, List.setIfInBounds_toArray, List.set_cons_zero, List.set_cons_succ]
          refine d_step 5 (by kernel_rfl) rfl (fun K hK => ?_)
          go_simp
          refine hK.out _ _ (fun _ => ⟨cell_step m1 c0, cell_step m1 c1⟩) ?_
          clear hK K
          try simp only [Act.put, List.setIfInBounds_toArray, List.set_cons_zero, List.set_cons_succ]
          refine d_step 8 (by kernel_rfl) rfl (fun K hK => ?_)
          go_simp
          refine hK.out _ _ (fun h => by exact absurd h (by decide)) ?_
          clear hK K
          try simp only [Act.put, List.setIfInBounds_toArray, List.set_cons_zero, List.set_cons_succ]
          refine d_step 9 (by kernel_rfl) rfl (fun K hK => ?_)
          go_simp
          refine hK.out _ _ (fun h => by exact absurd h (by decide)) ?_
          clear hK K
          try simp only [Act.put, List.setIfInBounds_toArray, List.set_cons_zero, List.set_cons_succ]
          refine d_done (by kernel_rfl) ?_ _
          try simp only [Act.put, List.setIfInBounds_toArray, List.set_cons_zero, List.set_cons_succ]
          go_wp2_with fail
          go_meet
          exact ⟨rfl, by (repeat (first | (with_reducible exact Below.refl _ _) | (with_reducible refine below_setCell ?_ (by first | (simp; done) | (simp; omega) | omega)) | (with_reducible refine below_alloc _ ?_) | (with_reducible refine below_drewN ?_ _) | (with_reducible refine below_drew_step ?_) | (with_reducible assumption) | (with_reducible refine below_after (by assumption) ?_)))⟩
        · skip
          refine wp_region_d 8 (fun w' => w'.cell? ⟨wr.heap.size, 0, none⟩ = some (.int .i64 3) ∧ w'.cell? ⟨wr.heap.size, 1, none⟩ = some (.string xKey)) (by kernel_rfl) ?_
          have hS : wb.drew.cell? ⟨wr.heap.size, 0, none⟩ = some (.int .i64 3) ∧ wb.drew.cell? ⟨wr.heap.size, 1, none⟩ = some (.string xKey) := ⟨c0, c1⟩
          refine d_take (f := 30) (v := ?_) 1 rfl (by kernel_rfl) (fun _ _ _ h => h) (Or.inl ⟨by rfl, ?_⟩) hS ?_
          rotate_left
          · intro wx hx
            obtain ⟨x0, x1⟩ := hx
            first | (go_simp; done) | (go_simp; with_reducible rfl)
          simp only [Act.put, List.setIfInBounds_toArray, List.set_cons_zero, List.set_cons_succ]
          refine d_take (f := 30) (v := ?_) 2 rfl (by kernel_rfl) (fun _ _ _ h => h) (Or.inl ⟨by rfl, ?_⟩) hS ?_
          rotate_left
          · intro wx hx
            obtain ⟨x0, x1⟩ := hx
            first | (go_simp; done) | (go_simp; with_reducible rfl)
          simp only [Act.put, List.setIfInBounds_toArray, List.set_cons_zero, List.set_cons_succ]
          refine d_take (f := 30) (v := ?_) 6 rfl (by kernel_rfl) (fun _ _ _ h => h) (Or.inl ⟨by rfl, ?_⟩) hS ?_
          rotate_left
          · intro wx hx
            obtain ⟨x0, x1⟩ := hx
            first | (go_simp; done) | (go_simp; with_reducible rfl)
          simp only [Act.put, List.setIfInBounds_toArray, List.set_cons_zero, List.set_cons_succ]
          refine d_take (f := 30) (v := ?_) 7 rfl (by kernel_rfl) (fun _ _ _ h => h) (Or.inl ⟨by rfl, ?_⟩) hS ?_
          rotate_left
          · intro wx hx
            obtain ⟨x0, x1⟩ := hx
            first | (go_simp; done) | (go_simp; with_reducible rfl)
          simp only [Act.put, List.setIfInBounds_toArray, List.set_cons_zero, List.set_cons_succ]
          refine d_step 0 (by kernel_rfl) rfl (fun K hK => ?_)
          go_simp
          go_at_call 46
          refine (opWords_any _).mono ?_
          rintro e x1 ⟨N, rfl, hN, g1, g2, g3, g4, g5, g6, g7, k⟩
          have m1 : Below wb.heap.size wb x1 := below_after k (by (repeat (first | (with_reducible exact Below.refl _ _) | (with_reducible refine below_setCell ?_ (by first | (simp; done) | (simp; omega) | omega)) | (with_reducible refine below_alloc _ ?_) | (with_reducible refine below_drewN ?_ _) | (with_reducible refine below_drew_step ?_) | (with_reducible assumption) | (with_reducible refine below_after (by assumption) ?_))))
          refine hK.out _ _ (fun _ => ⟨cell_step m1 c0, cell_step m1 c1⟩) ?_
          clear hK K k
          try simp only [Act.put, List.setIfInBounds_toArray, List.set_cons_zero, List.set_cons_succ]
          refine d_step 3 (by kernel_rfl) rfl (fun K hK => ?_)
          go_simp
          refine hK.out _ _ (fun _ => ⟨cell_step m1 c0, cell_step m1 c1⟩) ?_
          clear hK K
          try simp only [Act.put, List.setIfInBounds_toArray, List.set_cons_zero, List.set_cons_succ]
          refine d_step 4 (by kernel_rfl) rfl (fun K hK => ?_)
          go_simp
          refine hK.out _ _ (fun _ => ⟨cell_step m1 c0, cell_step m1 c1⟩) ?_
          clear hK K
          try simp only [Act.put, List.setIfInBounds_toArray, List.set_cons_zero, List.set_cons_succ]
          refine d_step 5 (by kernel_rfl) rfl (fun K hK => ?_)
          go_simp
          refine hK.out _ _ (fun _ => ⟨cell_step m1 c0, cell_step m1 c1⟩) ?_
          clear hK K
          try simp only [Act.put, List.setIfInBounds_toArray, List.set_cons_zero, List.set_cons_succ]
          refine d_step 8 (by kernel_rfl) rfl (fun K hK => ?_)
          go_simp
          refine hK.out _ _ (fun h => by exact absurd h (by decide)) ?_
          clear hK K
          try simp only [Act.put, List.setIfInBounds_toArray, List.set_cons_zero, List.set_cons_succ]
          refine d_step 9 (by kernel_rfl) rfl (fun K hK => ?_)
          go_simp
          refine hK.out _ _ (fun h => by exact absurd h (by decide)) ?_
          clear hK K
          try simp only [Act.put, List.setIfInBounds_toArray, List.set_cons_zero, List.set_cons_succ]
          refine d_done (by kernel_rfl) ?_ _
          try simp only [Act.put, List.setIfInBounds_toArray, List.set_cons_zero, List.set_cons_succ]
          go_wp2_with fail
          go_meet
          exact ⟨rfl, by (repeat (first | (with_reducible exact Below.refl _ _) | (with_reducible refine below_setCell ?_ (by first | (simp; done) | (simp; omega) | omega)) | (with_reducible refine below_alloc _ ?_) | (with_reducible refine below_drewN ?_ _) | (with_reducible refine below_drew_step ?_) | (with_reducible assumption) | (with_reducible refine below_after (by assumption) ?_)))⟩
        · skip
          refine wp_region_d 8 (fun w' => w'.cell? ⟨wr.heap.size, 0, none⟩ = some (.int .i64 4) ∧ w'.cell? ⟨wr.heap.size, 1, none⟩ = some (.string xKey)) (by kernel_rfl) ?_
          have hS : wb.drew.cell? ⟨wr.heap.size, 0, none⟩ = some (.int .i64 4) ∧ wb.drew.cell? ⟨wr.heap.size, 1, none⟩ = some (.string xKey) := ⟨c0, c1⟩
          refine d_take (f := 30) (v := ?_) 1 rfl (by kernel_rfl) (fun _ _ _ h => h) (Or.inl ⟨by rfl, ?_⟩) hS ?_
          rotate_left
          · intro wx hx
            obtain ⟨x0, x1⟩ := hx
            first | (go_simp; done) | (go_simp; with_reducible rfl)
          simp only [Act.put, List.setIfInBounds_toArray, List.set_cons_zero, List.set_cons_succ]
          refine d_take (f := 30) (v := ?_) 2 rfl (by kernel_rfl) (fun _ _ _ h => h) (Or.inl ⟨by rfl, ?_⟩) hS ?_
          rotate_left
          · intro wx hx
            obtain ⟨x0, x1⟩ := hx
            first | (go_simp; done) | (go_simp; with_reducible rfl)
          simp only [Act.put, List.setIfInBounds_toArray, List.set_cons_zero, List.set_cons_succ]
          refine d_take (f := 30) (v := ?_) 6 rfl (by kernel_rfl) (fun _ _ _ h => h) (Or.inl ⟨by rfl, ?_⟩) hS ?_
          rotate_left
          · intro wx hx
            obtain ⟨x0, x1⟩ := hx
            first | (go_simp; done) | (go_simp; with_reducible rfl)
          simp only [Act.put, List.setIfInBounds_toArray, List.set_cons_zero, List.set_cons_succ]
          refine d_take (f := 30) (v := ?_) 7 rfl (by kernel_rfl) (fun _ _ _ h => h) (Or.inl ⟨by rfl, ?_⟩) hS ?_
          rotate_left
          · intro wx hx
            obtain ⟨x0, x1⟩ := hx
            first | (go_simp; done) | (go_simp; with_reducible rfl)
          simp only [Act.put, List.setIfInBounds_toArray, List.set_cons_zero, List.set_cons_succ]
          refine d_step 0 (by kernel_rfl) rfl (fun K hK => ?_)
          go_simp
          go_at_call 46
          refine (opWords_any _).mono ?_
          rintro e x1 ⟨N, rfl, hN, g1, g2, g3, g4, g5, g6, g7, k⟩
          have m1 : Below wb.heap.size wb x1 := below_after k (by (repeat (first | (with_reducible exact Below.refl _ _) | (with_reducible refine below_setCell ?_ (by first | (simp; done) | (simp; omega) | omega)) | (with_reducible refine below_alloc _ ?_) | (with_reducible refine below_drewN ?_ _) | (with_reducible refine below_drew_step ?_) | (with_reducible assumption) | (with_reducible refine below_after (by assumption) ?_))))
          refine hK.out _ _ (fun _ => ⟨cell_step m1 c0, cell_step m1 c1⟩) ?_
          clear hK K k
          try simp only [Act.put, List.setIfInBounds_toArray, List.set_cons_zero, List.set_cons_succ]
          refine d_step 3 (by kernel_rfl) rfl (fun K hK => ?_)
          go_simp
          refine hK.out _ _ (fun _ => ⟨cell_step m1 c0, cell_step m1 c1⟩) ?_
          clear hK K
          try simp only [Act.put, List.setIfInBounds_toArray, List.set_cons_zero, List.set_cons_succ]
          refine d_step 4 (by kernel_rfl) rfl (fun K hK => ?_)
          go_simp
          refine hK.out _ _ (fun _ => ⟨cell_step m1 c0, cell_step m1 c1⟩) ?_
          clear hK K
          try simp only [Act.put, List.setIfInBounds_toArray, List.set_cons_zero, List.set_cons_succ]
          refine d_step 5 (by kernel_rfl) rfl (fun K hK => ?_)
          go_simp
          refine hK.out _ _ (fun _ => ⟨cell_step m1 c0, cell_step m1 c1⟩) ?_
          clear hK K
          try simp only [Act.put, List.setIfInBounds_toArray, List.set_cons_zero, List.set_cons_succ]
          refine d_step 8 (by kernel_rfl) rfl (fun K hK => ?_)
          go_simp
          refine hK.out _ _ (fun h => by exact absurd h (by decide)) ?_
          clear hK K
          try simp only [Act.put, List.setIfInBounds_toArray, List.set_cons_zero, List.set_cons_succ]
          refine d_step 9 (by kernel_rfl) rfl (fun K hK => ?_)
          go_simp
          refine hK.out _ _ (fun h => by exact absurd h (by decide)) ?_
          clear hK K
          try simp only [Act.put, List.setIfInBounds_toArray, List.set_cons_zero, List.set_cons_succ]
          refine d_done (by kernel_rfl) ?_ _
          try simp only [Act.put, List.setIfInBounds_toArray, List.set_cons_zero, List.set_cons_succ]
          go_wp2_with fail
          go_meet
          exact ⟨rfl, by (repeat (first | (with_reducible exact Below.refl _ _) | (with_reducible refine below_setCell ?_ (by first | (simp; done) | (simp; omega) | omega)) | (with_reducible refine below_alloc _ ?_) | (with_reducible refine below_drewN ?_ _) | (with_reducible refine below_drew_step ?_) | (with_reducible assumption) | (with_reducible refine below_after (by assumption) ?_)))⟩
        · skip
          refine wp_region_d 8 (fun w' => w'.cell? ⟨wr.heap.size, 0, none⟩ = some (.int .i64 5) ∧ w'.cell? ⟨wr.heap.size, 1, none⟩ = some (.string xKey)) (by kernel_rfl) ?_
          have hS : wb.drew.cell? ⟨wr.heap.size, 0, none⟩ = some (.int .i64 5) ∧ wb.drew.cell? ⟨wr.heap.size, 1, none⟩ = some (.string xKey) := ⟨c0, c1⟩
          refine d_take (f := 30) (v := ?_) 1 rfl (by kernel_rfl) (fun _ _ _ h => h) (Or.inl ⟨by rfl, ?_⟩) hS ?_
          rotate_left
          · intro wx hx
            obtain ⟨x0, x1⟩ := hx
            first | (go_simp; done) | (go_simp; with_reducible rfl)
          simp only [Act.put, List.setIfInBounds_toArray, List.set_cons_zero, List.set_cons_succ]
          refine d_take (f := 30) (v := ?_) 2 rfl (by kernel_rfl) (fun _ _ _ h => h) (Or.inl ⟨by rfl, ?_⟩) hS ?_
          rotate_left
          · intro wx hx
            obtain ⟨x0, x1⟩ := hx
            first | (go_simp; done) | (go_simp; with_reducible rfl)
          simp only [Act.put, List.setIfInBounds_toArray, List.set_cons_zero, List.set_cons_succ]
          refine d_take (f := 30) (v := ?_) 6 rfl (by kernel_rfl) (fun _ _ _ h => h) (Or.inl ⟨by rfl, ?_⟩) hS ?_
          rotate_left
          · intro wx hx
            obtain ⟨x0, x1⟩ := hx
            first | (go_simp; done) | (go_simp; with_reducible rfl)
          simp only [Act.put, List.setIfInBounds_toArray, List.set_cons_zero, List.set_cons_succ]
          refine d_take (f := 30) (v := ?_) 7 rfl (by kernel_rfl) (fun _ _ _ h => h) (Or.inl ⟨by rfl, ?_⟩) hS ?_
          rotate_left
          · intro wx hx
            obtain ⟨x0, x1⟩ := hx
            first | (go_simp; done) | (go_simp; with_reducible rfl)
          simp only [Act.put, List.setIfInBounds_toArray, List.set_cons_zero, List.set_cons_succ]
          refine d_step 0 (by kernel_rfl) rfl (fun K hK => ?_)
          go_simp
          go_at_call 46
          refine (opWords_any _).mono ?_
          rintro e x1 ⟨N, rfl, hN, g1, g2, g3, g4, g5, g6, g7, k⟩
          have m1 : Below wb.heap.size wb x1 := below_after k (by (repeat (first | (with_reducible exact Below.refl _ _) | (with_reducible refine below_setCell ?_ (by first | (simp; done) | (simp; omega) | omega)) | (with_reducible refine below_alloc _ ?_) | (with_reducible refine below_drewN ?_ _) | (with_reducible refine below_drew_step ?_) | (with_reducible assumption) | (with_reducible refine below_after (by assumption) ?_))))
          refine hK.out _ _ (fun _ => ⟨cell_step m1 c0, cell_step m1 c1⟩) ?_
          clear hK K k
          try simp only [Act.put, List.setIfInBounds_toArray, List.set_cons_zero, List.set_cons_succ]
          refine d_step 3 (by kernel_rfl) rfl (fun K hK => ?_)
          go_simp
          refine hK.out _ _ (fun _ => ⟨cell_step m1 c0, cell_step m1 c1⟩) ?_
          clear hK K
          try simp only [Act.put, List.setIfInBounds_toArray, List.set_cons_zero, List.set_cons_succ]
          refine d_step 4 (by kernel_rfl) rfl (fun K hK => ?_)
          go_simp
          refine hK.out _ _ (fun _ => ⟨cell_step m1 c0, cell_step m1 c1⟩) ?_
          clear hK K
          try simp only [Act.put, List.setIfInBounds_toArray, List.set_cons_zero, List.set_cons_succ]
          refine d_step 5 (by kernel_rfl) rfl (fun K hK => ?_)
          go_simp
          refine hK.out _ _ (fun _ => ⟨cell_step m1 c0, cell_step m1 c1⟩) ?_
          clear hK K
          try simp only [Act.put, List.setIfInBounds_toArray, List.set_cons_zero, List.set_cons_succ]
          refine d_step 8 (by kernel_rfl) rfl (fun K hK => ?_)
          go_simp
          refine hK.out _ _ (fun h => by exact absurd h (by decide)) ?_
          clear hK K
          try simp only [Act.put, List.setIfInBounds_toArray, List.set_cons_zero, List.set_cons_succ]
          refine d_step 9 (by kernel_rfl) rfl (fun K hK => ?_)
          go_simp
          refine hK.out _ _ (fun h => by exact absurd h (by decide)) ?_
          clear hK K
          try simp only [Act.put, List.setIfInBounds_toArray, List.set_cons_zero, List.set_cons_succ]
          refine d_done (by kernel_rfl) ?_ _
          try simp only [Act.put, List.setIfInBounds_toArray, List.set_cons_zero, List.set_cons_succ]
          go_wp2_with fail
          go_meet
          exact ⟨rfl, by (repeat (first | (with_reducible exact Below.refl _ _) | (with_reducible refine below_setCell ?_ (by first | (simp; done) | (simp; omega) | omega)) | (with_reducible refine below_alloc _ ?_) | (with_reducible refine below_drewN ?_ _) | (with_reducible refine below_drew_step ?_) | (with_reducible assumption) | (with_reducible refine below_after (by assumption) ?_)))⟩
        · skip
          refine wp_region_d 8 (fun w' => w'.cell? ⟨wr.heap.size, 0, none⟩ = some (.int .i64 6) ∧ w'.cell? ⟨wr.heap.size, 1, none⟩ = some (.string xKey)) (by kernel_rfl) ?_
          have hS : wb.drew.cell? ⟨wr.heap.size, 0, none⟩ = some (.int .i64 6) ∧ wb.drew.cell? ⟨wr.heap.size, 1, none⟩ = some (.string xKey) := ⟨c0, c1⟩
          refine d_take (f := 30) (v := ?_) 1 rfl (by kernel_rfl) (fun _ _ _ h => h) (Or.inl ⟨by rfl, ?_⟩) hS ?_
          rotate_left
          · intro wx hx
            obtain ⟨x0, x1⟩ := hx
            first | (go_simp; done) | (go_simp; with_reducible rfl)
          simp only [Act.put, List.setIfInBounds_toArray, List.set_cons_zero, List.set_cons_succ]
          refine d_take (f := 30) (v := ?_) 2 rfl (by kernel_rfl) (fun _ _ _ h => h) (Or.inl ⟨by rfl, ?_⟩) hS ?_
          rotate_left
          · intro wx hx
            obtain ⟨x0, x1⟩ := hx
            first | (go_simp; done) | (go_simp; with_reducible rfl)
          simp only [Act.put, List.setIfInBounds_toArray, List.set_cons_zero, List.set_cons_succ]
          refine d_take (f := 30) (v := ?_) 6 rfl (by kernel_rfl) (fun _ _ _ h => h) (Or.inl ⟨by rfl, ?_⟩) hS ?_
          rotate_left
          · intro wx hx
            obtain ⟨x0, x1⟩ := hx
            first | (go_simp; done) | (go_simp; with_reducible rfl)
          simp only [Act.put, List.setIfInBounds_toArray, List.set_cons_zero, List.set_cons_succ]
          refine d_take (f := 30) (v := ?_) 7 rfl (by kernel_rfl) (fun _ _ _ h => h) (Or.inl ⟨by rfl, ?_⟩) hS ?_
          rotate_left
          · intro wx hx
            obtain ⟨x0, x1⟩ := hx
            first | (go_simp; done) | (go_simp; with_reducible rfl)
          simp only [Act.put, List.setIfInBounds_toArray, List.set_cons_zero, List.set_cons_succ]
          refine d_step 0 (by kernel_rfl) rfl (fun K hK => ?_)
          go_simp
          go_at_call 46
          refine (opWords_any _).mono ?_
          rintro e x1 ⟨N, rfl, hN, g1, g2, g3, g4, g5, g6, g7, k⟩
          have m1 : Below wb.heap.size wb x1 := below_after k (by (repeat (first | (with_reducible exact Below.refl _ _) | (with_reducible refine below_setCell ?_ (by first | (simp; done) | (simp; omega) | omega)) | (with_reducible refine below_alloc _ ?_) | (with_reducible refine below_drewN ?_ _) | (with_reducible refine below_drew_step ?_) | (with_reducible assumption) | (with_reducible refine below_after (by assumption) ?_))))
          refine hK.out _ _ (fun _ => ⟨cell_step m1 c0, cell_step m1 c1⟩) ?_
          clear hK K k
          try simp only [Act.put, List.setIfInBounds_toArray, List.set_cons_zero, List.set_cons_succ]
          refine d_step 3 (by kernel_rfl) rfl (fun K hK => ?_)
          go_simp
          refine hK.out _ _ (fun _ => ⟨cell_step m1 c0, cell_step m1 c1⟩) ?_
          clear hK K
          try simp only [Act.put, List.setIfInBounds_toArray, List.set_cons_zero, List.set_cons_succ]
          refine d_step 4 (by kernel_rfl) rfl (fun K hK => ?_)
          go_simp
          refine hK.out _ _ (fun _ => ⟨cell_step m1 c0, cell_step m1 c1⟩) ?_
          clear hK K
          try simp only [Act.put, List.setIfInBounds_toArray, List.set_cons_zero, List.set_cons_succ]
          refine d_step 5 (by kernel_rfl) rfl (fun K hK => ?_)
          go_simp
          refine hK.out _ _ (fun _ => ⟨cell_step m1 c0, cell_step m1 c1⟩) ?_
          clear hK K
          try simp only [Act.put, List.setIfInBounds_toArray, List.set_cons_zero, List.set_cons_succ]
          refine d_step 8 (by kernel_rfl) rfl (fun K hK => ?_)
          go_simp
          refine hK.out _ _ (fun h => by exact absurd h (by decide)) ?_
          clear hK K
          try simp only [Act.put, List.setIfInBounds_toArray, List.set_cons_zero, List.set_cons_succ]
          refine d_step 9 (by kernel_rfl) rfl (fun K hK => ?_)
          go_simp
          refine hK.out _ _ (fun h => by exact absurd h (by decide)) ?_
          clear hK K
          try simp only [Act.put, List.setIfInBounds_toArray, List.set_cons_zero, List.set_cons_succ]
          refine d_done (by kernel_rfl) ?_ _
          try simp only [Act.put, List.setIfInBounds_toArray, List.set_cons_zero, List.set_cons_succ]
          go_wp2_with fail
          go_meet
          exact ⟨rfl, by (repeat (first | (with_reducible exact Below.refl _ _) | (with_reducible refine below_setCell ?_ (by first | (simp; done) | (simp; omega) | omega)) | (with_reducible refine below_alloc _ ?_) | (with_reducible refine below_drewN ?_ _) | (with_reducible refine below_drew_step ?_) | (with_reducible assumption) | (with_reducible refine below_after (by assumption) ?_)))⟩
        · skip
          refine wp_region_d 8 (fun w' => w'.cell? ⟨wr.heap.size, 0, none⟩ = some (.int .i64 7) ∧ w'.cell? ⟨wr.heap.size, 1, none⟩ = some (.string xKey)) (by kernel_rfl) ?_
          have hS : wb.drew.cell? ⟨wr.heap.size, 0, none⟩ = some (.int .i64 7) ∧ wb.drew.cell? ⟨wr.heap.size, 1, none⟩ = some (.string xKey) := ⟨c0, c1⟩
          refine d_take (f := 30) (v := ?_) 1 rfl (by kernel_rfl) (fun _ _ _ h => h) (Or.inl ⟨by rfl, ?_⟩) hS ?_
          rotate_left
          · intro wx hx
            obtain ⟨x0, x1⟩ := hx
            first | (go_simp; done) | (go_simp; with_reducible rfl)
          simp only [Act.put, List.setIfInBounds_toArray, List.set_cons_zero, List.set_cons_succ]
          refine d_take (f := 30) (v := ?_) 2 rfl (by kernel_rfl) (fun _ _ _ h => h) (Or.inl ⟨by rfl, ?_⟩) hS ?_
          rotate_left
          · intro wx hx
            obtain ⟨x0, x1⟩ := hx
            first | (go_simp; done) | (go_simp; with_reducible rfl)
          simp only [Act.put, List.setIfInBounds_toArray, List.set_cons_zero, List.set_cons_succ]
          refine d_take (f := 30) (v := ?_) 6 rfl (by kernel_rfl) (fun _ _ _ h => h) (Or.inl ⟨by rfl, ?_⟩) hS ?_
          rotate_left
          · intro wx hx
            obtain ⟨x0, x1⟩ := hx
            first | (go_simp; done) | (go_simp; with_reducible rfl)
          simp only [Act.put, List.setIfInBounds_toArray, List.set_cons_zero, List.set_cons_succ]
          refine d_take (f := 30) (v := ?_) 7 rfl (by kernel_rfl) (fun _ _ _ h => h) (Or.inl ⟨by rfl, ?_⟩) hS ?_
          rotate_left
          · intro wx hx
            obtain ⟨x0, x1⟩ := hx
            first | (go_simp; done) | (go_simp; with_reducible rfl)
          simp only [Act.put, List.setIfInBounds_toArray, List.set_cons_zero, List.set_cons_succ]
          refine d_step 0 (by kernel_rfl) rfl (fun K hK => ?_)
          go_simp
          go_at_call 46
          refine (opWords_any _).mono ?_
          rintro e x1 ⟨N, rfl, hN, g1, g2, g3, g4, g5, g6, g7, k⟩
          have m1 : Below wb.heap.size wb x1 := below_after k (by (repeat (first | (with_reducible exact Below.refl _ _) | (with_reducible refine below_setCell ?_ (by first | (simp; done) | (simp; omega) | omega)) | (with_reducible refine below_alloc _ ?_) | (with_reducible refine below_drewN ?_ _) | (with_reducible refine below_drew_step ?_) | (with_reducible assumption) | (with_reducible refine below_after (by assumption) ?_))))
          refine hK.out _ _ (fun _ => ⟨cell_step m1 c0, cell_step m1 c1⟩) ?_
          clear hK K k
          try simp only [Act.put, List.setIfInBounds_toArray, List.set_cons_zero, List.set_cons_succ]
          refine d_step 3 (by kernel_rfl) rfl (fun K hK => ?_)
          go_simp
          refine hK.out _ _ (fun _ => ⟨cell_step m1 c0, cell_step m1 c1⟩) ?_
          clear hK K
          try simp only [Act.put, List.setIfInBounds_toArray, List.set_cons_zero, List.set_cons_succ]
          refine d_step 4 (by kernel_rfl) rfl (fun K hK => ?_)
          go_simp
          refine hK.out _ _ (fun _ => ⟨cell_step m1 c0, cell_step m1 c1⟩) ?_
          clear hK K
          try simp only [Act.put, List.setIfInBounds_toArray, List.set_cons_zero, List.set_cons_succ]
          refine d_step 5 (by kernel_rfl) rfl (fun K hK => ?_)
          go_simp
          refine hK.out _ _ (fun _ => ⟨cell_step m1 c0, cell_step m1 c1⟩) ?_
          clear hK K
          try simp only [Act.put, List.setIfInBounds_toArray, List.set_cons_zero, List.set_cons_succ]
          refine d_step 8 (by kernel_rfl) rfl (fun K hK => ?_)
          go_simp
          refine hK.out _ _ (fun h => by exact absurd h (by decide)) ?_
          clear hK K
          try simp only [Act.put, List.setIfInBounds_toArray, List.set_cons_zero, List.set_cons_succ]
          refine d_step 9 (by kernel_rfl) rfl (fun K hK => ?_)
          go_simp
          refine hK.out _ _ (fun h => by exact absurd h (by decide)) ?_
          clear hK K
          try simp only [Act.put, List.setIfInBounds_toArray, List.set_cons_zero, List.set_cons_succ]
          refine d_done (by kernel_rfl) ?_ _
          try simp only [Act.put, List.setIfInBounds_toArray, List.set_cons_zero, List.set_cons_succ]
          go_wp2_with fail
          go_meet
          exact ⟨rfl, by (repeat (first | (with_reducible exact Below.refl _ _) | (with_reducible refine below_setCell ?_ (by first | (simp; done) | (simp; omega) | omega)) | (with_reducible refine below_alloc _ ?_) | (with_reducible refine below_drewN ?_ _) | (with_reducible refine below_drew_step ?_) | (with_reducible assumption) | (with_reducible refine below_after (by assumption) ?_)))⟩
      case rest =>
        obtain ⟨rfl, m⟩ := hcut
        replace b := b.trans (m.mono b.size)
        replace bw := bw.trans (m.mono bw.size)
        replace c0 := cell_step m c0
        replace c1 := cell_step m c1
        replace c2 := cell_step m c2
        replace c3 := cell_step m c3
        replace q0 := Nat.lt_of_lt_of_le q0 m.size
        clear m ha0 ha1
        rcases kinds xK with hk | hk | hk | hk
        rotate_right
        · have := HKK.out; omega
        clear HKK
        · skip
          have Hv : Hid (∀ W, Calls Tryd.prog 47 #[.int .i64 xK] W fun e w' => e = .returned (.bool true) ∧ W = w') := Lib.hid (fun W => by have := hasVal_any xK W; rwa [show (decide (xK = 2) || decide (xK = 7)) = true from by rcases hk with rfl | rfl <;> rfl] at this)
          have Hy : Hid (∀ W, Calls Tryd.prog 48 #[.int .i64 xK] W fun e w' => e = .returned (.bool false) ∧ W = w') := Lib.hid (fun W => by have := hasBy_any xK W; rwa [show (decide (xK = 4) || decide (xK = 5)) = false from by rcases hk with rfl | rfl <;> rfl] at this)
          have Ht : Hid (((l.take (k + 1)).map opT) = (l.take k).map opT ++ [tV]) := Lib.hid (by rw [Ht2.out, List.map_append, List.map_cons, List.map_nil, opT_V (by exact hk), HH.out, HtV.out])
          clear hk Ht2 HH
          go_wp2_with fail
          refine (Hv.out _).mono ?_
          rintro e u1 ⟨rfl, rfl⟩
          go_wp2_with fail
          refine (Hy.out _).mono ?_
          rintro e u2 ⟨rfl, rfl⟩
          have zt : tV.size ≤ maxLen := by have := Hz.out; have := HzH.out; unfold maxLen; omega
          have Hzt := Lib.hid zt
          clear zt
          go_wp2_with (at_builtin; refine wpList_append_part (c := Cod.str) wc rfl _ _ 33 (by rfl) w.heap.size 9 9 i0 (.string ⟨#[]⟩) 16 Tryd.underlying33 hi hz0 hz1 hz2 rfl (by decide) (by decide) wr _ k ((l.take k).map opT) cells (by rfl) Pc.out Hlen.out bw tV [] [.string tV] rfl ⟨rfl, Hzt.out, rfl⟩ (Mine.nil _ _) wc.heap.size rfl (by rfl) (by simp [Value.oneCell']) Hroom.out hbs ?_)
          intro g' cap' w3 hp3 hb3
          have Hp3 := Lib.hid hp3
          have hb4 : Below w.heap.size w w3 := b.trans hb3
          clear hp3 hb3 Pc
          go_wp2
          go_roundw
          case rel => exact ⟨k + 1, g', cap', by go_num, by omega, by go_num, Lib.hid (by rw [Ht.out, List.map_take]; exact Hp3.out), hb4⟩
          case measure => simp [intOf]; omega
        · skip
          have Hv : Hid (∀ W, Calls Tryd.prog 47 #[.int .i64 xK] W fun e w' => e = .returned (.bool false) ∧ W = w') := Lib.hid (fun W => by have := hasVal_any xK W; rwa [show (decide (xK = 2) || decide (xK = 7)) = false from by rcases hk with rfl | rfl <;> rfl] at this)
          have Hy : Hid (∀ W, Calls Tryd.prog 48 #[.int .i64 xK] W fun e w' => e = .returned (.bool true) ∧ W = w') := Lib.hid (fun W => by have := hasBy_any xK W; rwa [show (decide (xK = 4) || decide (xK = 5)) = true from by rcases hk with rfl | rfl <;> rfl] at this)
          have Ht : Hid (((l.take (k + 1)).map opT) = (l.take k).map opT ++ [tX]) := Lib.hid (by rw [Ht2.out, List.map_append, List.map_cons, List.map_nil, opT_B (by exact hk), HH.out, HtB.out, HtX.out])
          clear hk Ht2 HH
          go_wp2_with fail
          refine (Hv.out _).mono ?_
          rintro e u1 ⟨rfl, rfl⟩
          go_wp2_with fail
          refine (Hy.out _).mono ?_
          rintro e u2 ⟨rfl, rfl⟩
          go_wp2_with fail
          refine (HB.out _ (by (repeat (first | (with_reducible exact Below.refl _ _) | (with_reducible refine below_setCell ?_ (by first | (simp; done) | (simp; omega) | omega)) | (with_reducible refine below_alloc _ ?_) | (with_reducible refine below_drewN ?_ _) | (with_reducible assumption) | (with_reducible refine below_after (by assumption) ?_))))).mono ?_
          rintro e u3 ⟨rfl, k3⟩
          have m : Below wc.heap.size wc u3 := below_after k3 (by (repeat (first | (with_reducible exact Below.refl _ _) | (with_reducible refine below_setCell ?_ (by first | (simp; done) | (simp; omega) | omega)) | (with_reducible refine below_alloc _ ?_) | (with_reducible refine below_drewN ?_ _) | (with_reducible assumption) | (with_reducible refine below_after (by assumption) ?_))))
          replace b := b.trans (m.mono b.size)
          replace bw := bw.trans (m.mono bw.size)
          replace c0 := cell_step m c0
          replace c1 := cell_step m c1
          replace c2 := cell_step m c2
          replace c3 := cell_step m c3
          replace q0 := Nat.lt_of_lt_of_le q0 m.size
          clear m k3
          have zt : tX.size ≤ maxLen := by have := Hz.out; have := HzH.out; unfold maxLen; omega
          have Hzt := Lib.hid zt
          clear zt
          go_wp2_with (at_builtin; refine wpList_append_part (c := Cod.str) u3 rfl _ _ 33 (by rfl) w.heap.size 9 9 i0 (.string ⟨#[]⟩) 16 Tryd.underlying33 hi hz0 hz1 hz2 rfl (by decide) (by decide) wr _ k ((l.take k).map opT) cells (by rfl) Pc.out Hlen.out bw tX [] [.string tX] rfl ⟨rfl, Hzt.out, rfl⟩ (Mine.nil _ _) u3.heap.size rfl (by rfl) (by simp [Value.oneCell']) Hroom.out hbs ?_)
          intro g' cap' w3 hp3 hb3
          have Hp3 := Lib.hid hp3
          have hb4 : Below w.heap.size w w3 := b.trans hb3
          clear hp3 hb3 Pc
          go_wp2
          go_roundw
          case rel => exact ⟨k + 1, g', cap', by go_num, by omega, by go_num, Lib.hid (by rw [Ht.out, List.map_take]; exact Hp3.out), hb4⟩
          case measure => simp [intOf]; omega
        · skip
          have Hv : Hid (∀ W, Calls Tryd.prog 47 #[.int .i64 xK] W fun e w' => e = .returned (.bool false) ∧ W = w') := Lib.hid (fun W => by have := hasVal_any xK W; rwa [show (decide (xK = 2) || decide (xK = 7)) = false from by rcases hk with rfl | rfl | rfl <;> rfl] at this)
          have Hy : Hid (∀ W, Calls Tryd.prog 48 #[.int .i64 xK] W fun e w' => e = .returned (.bool false) ∧ W = w') := Lib.hid (fun W => by have := hasBy_any xK W; rwa [show (decide (xK = 4) || decide (xK = 5)) = false from by rcases hk with rfl | rfl | rfl <;> rfl] at this)
          have Ht : Hid (((l.take (k + 1)).map opT) = (l.take k).map opT ++ [hd]) := Lib.hid (by rw [Ht2.out, List.map_append, List.map_cons, List.map_nil, opT_P (by exact hk), HH.out])
          clear hk Ht2 HH
          go_wp2_with fail
          refine (Hv.out _).mono ?_
          rintro e u1 ⟨rfl, rfl⟩
          go_wp2_with fail
          refine (Hy.out _).mono ?_
          rintro e u2 ⟨rfl, rfl⟩
          have zt : hd.size ≤ maxLen := by have := Hz.out; have := HzH.out; unfold maxLen; omega
          have Hzt := Lib.hid zt
          clear zt
          go_wp2_with (at_builtin; refine wpList_append_part (c := Cod.str) wc rfl _ _ 33 (by rfl) w.heap.size 9 9 i0 (.string ⟨#[]⟩) 16 Tryd.underlying33 hi hz0 hz1 hz2 rfl (by decide) (by decide) wr _ k ((l.take k).map opT) cells (by rfl) Pc.out Hlen.out bw hd [] [.string hd] rfl ⟨rfl, Hzt.out, rfl⟩ (Mine.nil _ _) wc.heap.size rfl (by rfl) (by simp [Value.oneCell']) Hroom.out hbs ?_)
          intro g' cap' w3 hp3 hb3
          have Hp3 := Lib.hid hp3
          have hb4 : Below w.heap.size w w3 := b.trans hb3
          clear hp3 hb3 Pc
          go_wp2
          go_roundw
          case rel => exact ⟨k + 1, g', cap', by go_num, by omega, by go_num, Lib.hid (by rw [Ht.out, List.map_take]; exact Hp3.out), hb4⟩
          case measure => simp [intOf]; omega
    · have hlt2 : (n : Int) ≤ (k : Int) := by omega
      obtain rfl : k = n := by omega
      have hf : (l.take k).map opT = l.map opT := by rw [List.take_of_length_le (by have := Hn.out; omega)]
      rw [hf] at Hp
      have ho : Own Cod.str wr w.heap.size (.slice (some ⟨g0, 0, none⟩) k cap0) (l.map opT) := Hp.out.own (by rw [List.length_map]; exact Hn.out)
      have Hs : Hid ((opsS l).size ≤ 9000000) := Lib.hid (by
        have := opsS_size l fun x hx => by
          obtain ⟨_, b0, b1⟩ := opB_parts (HG.out x hx)
          have h1 := opT_size (x := x) (by omega) (by omega)
          have h2 := HL.out x hx
          omega
        have := Hn.out
        omega)
      have HJ := Lib.hid (joinOps_any ho Hn.out (by omega) Hs.out)
      clear ho Hp hf
      go_wp2_with fail
      refine HJ.out.mono ?_
      rintro e w4 ⟨rfl, k4⟩
      go_wp2
      go_ret
      exact ⟨rfl, below_after k4 hb⟩

end Go.Proofs.YtpiheobpobclgaaDoor
