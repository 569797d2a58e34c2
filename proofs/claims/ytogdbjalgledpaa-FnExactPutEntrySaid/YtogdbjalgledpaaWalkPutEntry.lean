/- The law FnExactPutEntry walked: it returns true, and nothing that was there has turned. Printed by mkgrp.py. -/
import Derived.Test.YtogdbjalgledpaaPutEntS
import Derived.Test.YtogdbjalgledpaaPutEnt
import Derived.Test.YtogdbjalgledpaaGcopy
import Derived.Test.YtogdbjalgledpaaPutb
import Derived.Test.YtogdbjalgledpaaGroupM
import Derived.Test.YtogdbjalgledpaaSizes
import Derived.Test.YtogdbjalgledpaaDArgsGrp
import Derived.Test.YtogdbjalgledpaaEqs
import Derived.Test.YtogdbjalgledpaaRecm
import Derived.Test.YtogdbjalgledpaaDArgsRec
import Derived.Deep.RegionWith
import Derived.Deep.DeepCutAuto
namespace Go.Proofs.Ytogdbjalgledpaa.fnExactPutEntry
open Go.RowKit

set_option maxRecDepth 100000 in
set_option maxHeartbeats 12800000 in
theorem walk {w : World} (y0 : GroupD) (v0 : Value) (s0 : Rd Cod.replica w v0 y0.Reps) (i0a : I64 y0.Term) (i0b : I64 y0.Lead) (y1 : RecD) (v1 v1' : Value) (s1 : Rd Cod.str w v1 y1.Reads) (s1' : Rd Cod.write w v1' y1.Writes) (i1a : I64 y1.Kind) (i1b : I64 y1.Txn) (i1c : I64 y1.Time) (i1d : I64 y1.Lead) (_ : True) : Calls Try.prog 5 #[.agg #[v0, .int .i64 y0.Term, .int .i64 y0.Lead], .agg #[.int .i64 y1.Kind, .int .i64 y1.Txn, .int .i64 y1.Time, .int .i64 y1.Lead, v1, v1', .bool y1.Yes]] w fun e w' => e = .returned (.bool true) ∧ Below w.heap.size w w' := by
  obtain ⟨p0, e0, rfl, -⟩ := s0.form
  have Hs0 := Lib.hid (fun (z : Int) (h0 : 0 ≤ z) (h1 : z ≤ 1048576) (u : World) r => szGroup_any y0 z h0 h1 u (.slice p0 y0.Reps.length e0) r)
  have Ht0 := Lib.hid (fun (c : costGroup y0 ≤ 1048576) (u : World) r => toGroup_w y0 i0a i0b c u (.slice p0 y0.Reps.length e0) r)
  have He0 := Lib.hid (fun (c : costGroup y0 ≤ 1048576) (u : World) p q r1 r2 => eqGroup_d y0 c u p r1 q r2)
  have Hk0 := Lib.hid (fun (k0 : Nat) (h0 : 0 < k0) (c : k0 + sumN LReplica y0.Reps ≤ 1073741824) (a : Value) (lo hi : Nat) (u : World) r => markGroup_l k0 h0 a y0.Reps y0.Term y0.Lead lo hi u r c)
  have hL0 := lenReplica y0.Reps
  obtain ⟨p1, e1, rfl, -⟩ := s1.form
  obtain ⟨p1', e1', rfl, -⟩ := s1'.form
  have Hs1 := Lib.hid (fun (z : Int) (h0 : 0 ≤ z) (h1 : z ≤ 1048576) (u : World) r r' => szRec_any y1 z h0 h1 u (.slice p1 y1.Reads.length e1) r (.slice p1' y1.Writes.length e1') r')
  have Ht1 := Lib.hid (fun (c : costRec y1 ≤ 1048576) (u : World) r r' => toRec_o y1 i1a i1b i1c i1d c u (.slice p1 y1.Reads.length e1) (.slice p1' y1.Writes.length e1') r r')
  have He1 := Lib.hid (fun (c : costRec y1 ≤ 1048576) (u : World) p p' q q' r1 r1' r2 r2' => eqRec_o y1 c u p r1 p' r1' q r2 q' r2')
  have Hk1 := Lib.hid (fun (k0 : Nat) (h0 : 0 < k0) (c : k0 + LRecM y1 ≤ 1073741824) (a a' : Value) (lo hi : Nat) (u : World) r => markRec_l k0 h0 y1 a a' lo hi u r c)
  have hL1 := lenRecM y1
  have HS := Lib.hid (fun (c0 : costGroup y0 ≤ 1048576) (c1 : costRec y1 ≤ 1048576) (u : World) v0 r0 v1 v1' r1 r1' => putS_any v0 y0.Reps y0.Term y0.Lead y1 i0a i0b c0 c1 i1a i1b i1c i1d u r0 v1 v1' r1 r1')
  have HI := Lib.hid (fun (c0 : costGroup y0 ≤ 1048576) (c1 : costRec y1 ≤ 1048576) (u : World) v0 r0 v1 v1' r1 r1' => put_any v0 y0.Reps y0.Term y0.Lead y1 i0a i0b c0 c1 i1a i1b i1c i1d u r0 v1 v1' r1 r1')
  have Hcr : Hid (costGroup y0 ≤ 1048576 → costRec y1 ≤ 1048576 → costGroup (pickG (goodGB y0.Reps y0.Term y0.Lead && putOk y0.Reps y0.Lead && goodRB y1) ⟨putL y0.Reps y0.Term y0.Lead y1, y0.Term, y0.Lead⟩) ≤ 1048576) := Lib.hid (fun c0 c1 => put_cost _ _ _ _ _)
  generalize pickG (goodGB y0.Reps y0.Term y0.Lead && putOk y0.Reps y0.Lead && goodRB y1) ⟨putL y0.Reps y0.Term y0.Lead y1, y0.Term, y0.Lead⟩ = res at *
  generalize (goodGB y0.Reps y0.Term y0.Lead && putOk y0.Reps y0.Lead && goodRB y1) = q at *
  have HeR := Lib.hid (fun (c : costGroup res ≤ 1048576) (u : World) a b r1 r2 => eqGroup_d res c u a r1 b r2)
  have hLR := lenReplica res.Reps
  obtain ⟨LR, eLR⟩ : ∃ LR, sumN LReplica res.Reps = LR := ⟨_, rfl⟩
  rw [eLR] at hLR
  have HkR := Lib.hid (fun (c : 1 + LR ≤ 1073741824) (a : Value) (lo hi : Nat) (u : World) r => eLR ▸ markGroup_l 1 (by decide) a res.Reps res.Term res.Lead lo hi u r (by rw [eLR]; exact c))
  have HhR := Lib.hid (fun (c : 1 + LR ≤ 1073741824) (a : Value) (u : World) (r : HeldS PT.treplica u a 1 LR) => heldGroup_any 1 (by decide) a res.Term res.Lead LR u r c)
  clear eLR
  change _ ≤ 6 * costGroup y0 at hL0
  generalize costGroup y0 = n0 at *
  generalize sumN LReplica y0.Reps = l0 at *
  clear i0a i0b
  replace s1 := rec_within i1a i1b i1c i1d s1 s1'
  clear s1'
  generalize costRec y1 = n1 at *
  generalize LRecM y1 = l1 at *
  clear i1a i1b i1c i1d
  change _ ≤ 6 * costGroup res at hLR
  generalize costGroup res = nR at *
  obtain ⟨qq, hqq⟩ : ∃ qq, qq = q := ⟨_, rfl⟩
  cases q
  all_goals
    go_enter Try.func5, Try.ntmps5
    replace s0 := s0.within
    go_wp2_with fail
    refine (Hs0.out _ (by omega) (by omega) _ (s0.below (by (repeat (first | (with_reducible exact Below.refl _ _) | (with_reducible refine below_setCell ?_ (by first | (simp; done) | (simp; omega) | omega)) | (with_reducible refine below_alloc _ ?_) | (with_reducible refine below_drewN ?_ _) | (with_reducible assumption) | (with_reducible refine below_after (by assumption) ?_))))).rd).mono ?_
    rintro e u1 ⟨k1, ⟨rfl, hz0⟩ | ⟨rfl, hz0⟩⟩
    rotate_left
    · go_wp2
      go_ret
      exact ⟨rfl, by (repeat (first | (with_reducible exact Below.refl _ _) | (with_reducible refine below_setCell ?_ (by first | (simp; done) | (simp; omega) | omega)) | (with_reducible refine below_alloc _ ?_) | (with_reducible refine below_drewN ?_ _) | (with_reducible assumption) | (with_reducible refine below_after (by assumption) ?_)))⟩
    have m1 : Below w.heap.size w u1 := below_after k1 (by (repeat (first | (with_reducible exact Below.refl _ _) | (with_reducible refine below_setCell ?_ (by first | (simp; done) | (simp; omega) | omega)) | (with_reducible refine below_alloc _ ?_) | (with_reducible refine below_drewN ?_ _) | (with_reducible assumption) | (with_reducible refine below_after (by assumption) ?_))))
    replace s0 := s0.below m1
    replace s1 := s1.below m1
    have qxa0 : w.heap.size < u1.heap.size := by have := k1.size; simp at this; omega
    have yqxa0 := qxa0
    have xa0_0 : u1.cell? ⟨w.heap.size, 0, none⟩ = some (.slice p0 y0.Reps.length e0) := by rw [(bcell k1).1 _ _ (by first | (simp; done) | (simp; omega))]; simp [go_sem]
    have xa0_1 : u1.cell? ⟨w.heap.size, 1, none⟩ = some (.int .i64 y0.Term) := by rw [(bcell k1).1 _ _ (by first | (simp; done) | (simp; omega))]; simp [go_sem]
    have xa0_2 : u1.cell? ⟨w.heap.size, 2, none⟩ = some (.int .i64 y0.Lead) := by rw [(bcell k1).1 _ _ (by first | (simp; done) | (simp; omega))]; simp [go_sem]
    have qxa1 : w.heap.size + 1 < u1.heap.size := by have := k1.size; simp at this; omega
    have yqxa1 := qxa1
    have xa1_0 : u1.cell? ⟨w.heap.size + 1, 0, none⟩ = some (.int .i64 y1.Kind) := by rw [(bcell k1).1 _ _ (by first | (simp; done) | (simp; omega))]; simp [go_sem]
    have xa1_1 : u1.cell? ⟨w.heap.size + 1, 1, none⟩ = some (.int .i64 y1.Txn) := by rw [(bcell k1).1 _ _ (by first | (simp; done) | (simp; omega))]; simp [go_sem]
    have xa1_2 : u1.cell? ⟨w.heap.size + 1, 2, none⟩ = some (.int .i64 y1.Time) := by rw [(bcell k1).1 _ _ (by first | (simp; done) | (simp; omega))]; simp [go_sem]
    have xa1_3 : u1.cell? ⟨w.heap.size + 1, 3, none⟩ = some (.int .i64 y1.Lead) := by rw [(bcell k1).1 _ _ (by first | (simp; done) | (simp; omega))]; simp [go_sem]
    have xa1_4 : u1.cell? ⟨w.heap.size + 1, 4, none⟩ = some (.slice p1 y1.Reads.length e1) := by rw [(bcell k1).1 _ _ (by first | (simp; done) | (simp; omega))]; simp [go_sem]
    have xa1_5 : u1.cell? ⟨w.heap.size + 1, 5, none⟩ = some (.slice p1' y1.Writes.length e1') := by rw [(bcell k1).1 _ _ (by first | (simp; done) | (simp; omega))]; simp [go_sem]
    have xa1_6 : u1.cell? ⟨w.heap.size + 1, 6, none⟩ = some (.bool y1.Yes) := by rw [(bcell k1).1 _ _ (by first | (simp; done) | (simp; omega))]; simp [go_sem]
    have z1 : w.heap.size ≤ u1.heap.size := m1.size
    have b := m1
    clear m1 k1
    go_wp2_with fail
    refine (Hs1.out _ (by omega) (by omega) _ (s1.below (by (repeat (first | (with_reducible exact Below.refl _ _) | (with_reducible refine below_setCell ?_ (by first | (simp; done) | (simp; omega) | omega)) | (with_reducible refine below_alloc _ ?_) | (with_reducible refine below_drewN ?_ _) | (with_reducible assumption) | (with_reducible refine below_after (by assumption) ?_))))).rd1 (s1.below (by (repeat (first | (with_reducible exact Below.refl _ _) | (with_reducible refine below_setCell ?_ (by first | (simp; done) | (simp; omega) | omega)) | (with_reducible refine below_alloc _ ?_) | (with_reducible refine below_drewN ?_ _) | (with_reducible assumption) | (with_reducible refine below_after (by assumption) ?_))))).rd2).mono ?_
    rintro e u2 ⟨k2, ⟨rfl, hz1⟩ | ⟨rfl, hz1⟩⟩
    rotate_left
    · go_wp2
      go_ret
      exact ⟨rfl, below_after (below_after k2 (by (repeat (first | (with_reducible exact Below.refl _ _) | (with_reducible refine below_setCell ?_ (by first | (simp; done) | (simp; omega) | omega)) | (with_reducible refine below_alloc _ ?_) | (with_reducible refine below_drewN ?_ _) | (with_reducible assumption) | (with_reducible refine below_after (by assumption) ?_))))) b⟩
    have m2 : Below u1.heap.size u1 u2 := below_after k2 (by (repeat (first | (with_reducible exact Below.refl _ _) | (with_reducible refine below_setCell ?_ (by first | (simp; done) | (simp; omega) | omega)) | (with_reducible refine below_alloc _ ?_) | (with_reducible refine below_drewN ?_ _) | (with_reducible assumption) | (with_reducible refine below_after (by assumption) ?_))))
    replace s0 := s0.below m2
    replace s1 := s1.below m2
    replace xa0_0 := cell_step m2 xa0_0
    replace xa0_1 := cell_step m2 xa0_1
    replace xa0_2 := cell_step m2 xa0_2
    replace xa1_0 := cell_step m2 xa1_0
    replace xa1_1 := cell_step m2 xa1_1
    replace xa1_2 := cell_step m2 xa1_2
    replace xa1_3 := cell_step m2 xa1_3
    replace xa1_4 := cell_step m2 xa1_4
    replace xa1_5 := cell_step m2 xa1_5
    replace xa1_6 := cell_step m2 xa1_6
    replace qxa0 := Nat.lt_of_lt_of_le qxa0 m2.size
    replace qxa1 := Nat.lt_of_lt_of_le qxa1 m2.size
    have z2 : u1.heap.size ≤ u2.heap.size := m2.size
    replace b := m2.mono b.size |> b.trans
    clear m2 k2
    have hc0 : n0 ≤ 1048576 := by omega
    have hc1 : n1 ≤ 1048576 := by omega
    have hcR : nR ≤ 1048576 := Hcr.out hc0 hc1
    go_upto_region 8 with fail
    go_cut [6, 7] (fun sa sb wx => ∃ (B : Nat) (p : Option Addr) (c : Nat), sa = .pointer (some ⟨B, 0, none⟩) ∧ sb = .bool qq ∧ (u2.heap.size ≤ B ∧ B < wx.heap.size) ∧ wx.cell? ⟨B, 0, none⟩ = some (.slice p res.Reps.length c) ∧ wx.cell? ⟨B, 1, none⟩ = some (.int .i64 res.Term) ∧ wx.cell? ⟨B, 2, none⟩ = some (.int .i64 res.Lead) ∧ Hid (Own Cod.replica wx u2.heap.size (.slice p res.Reps.length c) res.Reps) ∧ Below u2.heap.size u2 wx)
    case first =>
      refine wp_region_d 4 (fun w' => w'.cell? ⟨w.heap.size, 0, none⟩ = some (.slice p0 y0.Reps.length e0) ∧ w'.cell? ⟨w.heap.size, 1, none⟩ = some (.int .i64 y0.Term) ∧ w'.cell? ⟨w.heap.size, 2, none⟩ = some (.int .i64 y0.Lead) ∧ w'.cell? ⟨w.heap.size + 1, 0, none⟩ = some (.int .i64 y1.Kind) ∧ w'.cell? ⟨w.heap.size + 1, 1, none⟩ = some (.int .i64 y1.Txn) ∧ w'.cell? ⟨w.heap.size + 1, 2, none⟩ = some (.int .i64 y1.Time) ∧ w'.cell? ⟨w.heap.size + 1, 3, none⟩ = some (.int .i64 y1.Lead) ∧ w'.cell? ⟨w.heap.size + 1, 4, none⟩ = some (.slice p1 y1.Reads.length e1) ∧ w'.cell? ⟨w.heap.size + 1, 5, none⟩ = some (.slice p1' y1.Writes.length e1') ∧ w'.cell? ⟨w.heap.size + 1, 6, none⟩ = some (.bool y1.Yes)) (by kernel_rfl) ?_
      have hS : u2.drew.cell? ⟨w.heap.size, 0, none⟩ = some (.slice p0 y0.Reps.length e0) ∧ u2.drew.cell? ⟨w.heap.size, 1, none⟩ = some (.int .i64 y0.Term) ∧ u2.drew.cell? ⟨w.heap.size, 2, none⟩ = some (.int .i64 y0.Lead) ∧ u2.drew.cell? ⟨w.heap.size + 1, 0, none⟩ = some (.int .i64 y1.Kind) ∧ u2.drew.cell? ⟨w.heap.size + 1, 1, none⟩ = some (.int .i64 y1.Txn) ∧ u2.drew.cell? ⟨w.heap.size + 1, 2, none⟩ = some (.int .i64 y1.Time) ∧ u2.drew.cell? ⟨w.heap.size + 1, 3, none⟩ = some (.int .i64 y1.Lead) ∧ u2.drew.cell? ⟨w.heap.size + 1, 4, none⟩ = some (.slice p1 y1.Reads.length e1) ∧ u2.drew.cell? ⟨w.heap.size + 1, 5, none⟩ = some (.slice p1' y1.Writes.length e1') ∧ u2.drew.cell? ⟨w.heap.size + 1, 6, none⟩ = some (.bool y1.Yes) := ⟨xa0_0, xa0_1, xa0_2, xa1_0, xa1_1, xa1_2, xa1_3, xa1_4, xa1_5, xa1_6⟩
      refine d_take (f := 30) (v := ?_) 0 rfl (by kernel_rfl) (fun _ _ _ h => h) (Or.inl ⟨by rfl, ?_⟩) hS ?_
      rotate_left
      · intro wx hx
        obtain ⟨x0, x1, x2, x3, x4, x5, x6, x7, x8, x9⟩ := hx
        first | (go_simp; done) | (go_simp; with_reducible rfl)
      simp only [Act.put, List.setIfInBounds_toArray]
      refine d_take (f := 30) (v := ?_) 2 rfl (by kernel_rfl) (fun _ _ _ h => h) (Or.inl ⟨by rfl, ?_⟩) hS ?_
      rotate_left
      · intro wx hx
        obtain ⟨x0, x1, x2, x3, x4, x5, x6, x7, x8, x9⟩ := hx
        first | (go_simp; done) | (go_simp; with_reducible rfl)
      simp only [Act.put]
      clear hS
      refine d_two 1 8 (by kernel_rfl) rfl rfl (fun K hK => ?_) (fun K hK => ?_)
      · skip
        go_simp
        go_at_call 12
        refine (Ht0.out hc0 _ (s0.below (show Below u2.heap.size u2 u2.drew from by (repeat (first | (with_reducible exact Below.refl _ _) | (with_reducible refine below_setCell ?_ (by first | (simp; done) | (simp; omega) | omega)) | (with_reducible refine below_alloc _ ?_) | (with_reducible refine below_drewN ?_ _) | (with_reducible refine below_drew_step ?_) | (with_reducible assumption) | (with_reducible refine below_after (by assumption) ?_))))).rd).mono ?_
        rintro e x1 ⟨tt1, vv1, rfl, o1, k⟩
        have m_x1 : Below u2.heap.size u2 x1 := below_after k (show Below u2.heap.size u2 u2.drew from by (repeat (first | (with_reducible exact Below.refl _ _) | (with_reducible refine below_setCell ?_ (by first | (simp; done) | (simp; omega) | omega)) | (with_reducible refine below_alloc _ ?_) | (with_reducible refine below_drewN ?_ _) | (with_reducible refine below_drew_step ?_) | (with_reducible assumption) | (with_reducible refine below_after (by assumption) ?_))))
        have R1 := Lib.hid o1.rd
        clear o1
        refine hK.out _ _ (fun _ => ⟨cell_step m_x1 xa0_0, cell_step m_x1 xa0_1, cell_step m_x1 xa0_2, cell_step m_x1 xa1_0, cell_step m_x1 xa1_1, cell_step m_x1 xa1_2, cell_step m_x1 xa1_3, cell_step m_x1 xa1_4, cell_step m_x1 xa1_5, cell_step m_x1 xa1_6⟩) ?_
        clear hK K k
        try simp only [Act.put, List.setIfInBounds_toArray, List.set_cons_zero, List.set_cons_succ]
        refine d_two 3 8 (by kernel_rfl) rfl rfl (fun K hK => ?_) (fun K hK => ?_)
        · skip
          go_simp
          go_at_call 21
          refine (Ht1.out hc1 _ (s1.below m_x1).rd1 (s1.below m_x1).rd2).mono ?_
          rintro e x2 ⟨tt2, vv2, tt3, vv3, rfl, o2, k⟩
          have m_x2 : Below u2.heap.size u2 x2 := below_after k m_x1
          replace R1 := Lib.hid (R1.out.below k)
          have R2 := Lib.hid o2.rd1
          have R3 := Lib.hid o2.rd2
          clear o2
          refine hK.out _ _ (fun _ => ⟨cell_step m_x2 xa0_0, cell_step m_x2 xa0_1, cell_step m_x2 xa0_2, cell_step m_x2 xa1_0, cell_step m_x2 xa1_1, cell_step m_x2 xa1_2, cell_step m_x2 xa1_3, cell_step m_x2 xa1_4, cell_step m_x2 xa1_5, cell_step m_x2 xa1_6⟩) ?_
          clear hK K k
          try simp only [Act.put, List.setIfInBounds_toArray, List.set_cons_zero, List.set_cons_succ]
          refine d_two 4 8 (by kernel_rfl) rfl rfl (fun K hK => ?_) (fun K hK => ?_)
          · skip
            go_simp
            go_at_call 20
            refine (HS.out hc0 hc1 _ _ R1.out _ _ R2.out R3.out).mono ?_
            rintro e x3 ⟨v3, rfl, o3, k⟩
            obtain ⟨p3, c3, rfl⟩ := o3.form
            have m_x3 : Below u2.heap.size u2 x3 := below_after k m_x2
            have O3 := Lib.hid o3
            have z3 := k.size
            clear o3 R1 R2 R3
            refine hK.out _ _ (fun h => by exact absurd h (by decide)) ?_
            clear hK K k
            try simp only [Act.put, List.setIfInBounds_toArray, List.set_cons_zero, List.set_cons_succ]
            refine d_takeYL (v := ?_) 5 rfl (by kernel_rfl) (fun _ _ _ h => h) (Or.inl ⟨by rfl, ?_⟩) ?_
            rotate_left
            · intro wx _
              first | (go_simp; done) | (go_simp; with_reducible rfl)
            simp only [Act.put, List.setIfInBounds_toArray]
            refine d_takeYL (v := ?_) 6 rfl (by kernel_rfl) (fun _ _ _ h => h) (Or.inl ⟨by rfl, ?_⟩) ?_
            rotate_left
            · intro wx _
              first | (go_simp; done) | (go_simp; with_reducible rfl)
            simp only [Act.put]
            refine d_takeYL (v := ?_) 7 rfl (by kernel_rfl) (fun _ _ _ h => h) (Or.inl ⟨by rfl, ?_⟩) ?_
            rotate_left
            · intro wx _
              first | (go_simp; done) | (go_simp; with_reducible rfl)
            simp only [Act.put]
            refine d_step 8 (by kernel_rfl) rfl (fun K hK => ?_)
            go_simp
            generalize hA : World.alloc _ _ = wA
            have m_wA : Below u2.heap.size u2 wA := by rw [← hA]; exact below_alloc _ m_x3
            have hBlo : u2.heap.size ≤ x3.heap.size := m_x3.size
            have hBW : x3.heap.size < wA.heap.size := by rw [← hA]; simp
            have q0 : wA.cell? ⟨x3.heap.size, 0, none⟩ = some (.slice none 0 0) := by rw [← hA]; simp [go_sem]
            have q1 : wA.cell? ⟨x3.heap.size, 1, none⟩ = some (.int .i64 0) := by rw [← hA]; simp [go_sem]
            have q2 : wA.cell? ⟨x3.heap.size, 2, none⟩ = some (.int .i64 0) := by rw [← hA]; simp [go_sem]
            have f0 : wA.frozen? ⟨x3.heap.size, 0, none⟩ = false := by rw [← hA]; simp [go_sem]
            have f1 : wA.frozen? ⟨x3.heap.size, 1, none⟩ = false := by rw [← hA]; simp [go_sem]
            have f2 : wA.frozen? ⟨x3.heap.size, 2, none⟩ = false := by rw [← hA]; simp [go_sem]
            have hAb : Below x3.heap.size x3 wA := by rw [← hA]; exact below_new _ _
            clear hA
            refine hK.out _ _ (fun h => by exact absurd h (by decide)) ?_
            clear hK K
            try simp only [Act.put, List.setIfInBounds_toArray, List.set_cons_zero, List.set_cons_succ]
            refine d_step 9 (by kernel_rfl) rfl (fun K hK => ?_)
            go_simp
            refine hK.out _ _ (fun h => by exact absurd h (by decide)) ?_
            clear hK K
            try simp only [Act.put, List.setIfInBounds_toArray, List.set_cons_zero, List.set_cons_succ]
            refine d_step 10 (by kernel_rfl) rfl (fun K hK => ?_)
            go_simp
            refine hK.out _ _ (fun h => by exact absurd h (by decide)) ?_
            clear hK K
            refine d_done (by kernel_rfl) ?_ _
            try simp only [Act.put, List.setIfInBounds_toArray, List.set_cons_zero, List.set_cons_succ]
            go_wp2_with fail
            go_meet
            exact ⟨_, p3, c3, rfl, by rw [hqq], ⟨hBlo, by simp; omega⟩, by simp [go_sem, q0], by simp [go_sem, q1], by simp [go_sem, q2], Lib.hid ((O3.out.below (by (repeat (first | (with_reducible exact Below.refl _ _) | (with_reducible refine below_setCell ?_ (by first | (simp; done) | (simp; omega) | omega)) | (with_reducible refine below_alloc _ ?_) | (with_reducible refine below_drewN ?_ _) | (with_reducible assumption) | (with_reducible refine below_after (by assumption) ?_))))).mono m_x2.size), by (repeat (first | (with_reducible exact Below.refl _ _) | (with_reducible refine below_setCell ?_ (by first | (simp; done) | (simp; omega) | omega)) | (with_reducible refine below_alloc _ ?_) | (with_reducible refine below_drewN ?_ _) | (with_reducible assumption) | (with_reducible refine below_after (by assumption) ?_)))⟩
          · skip
            go_simp
            generalize hA : World.alloc _ _ = wA
            have m_wA : Below u2.heap.size u2 wA := by rw [← hA]; exact below_alloc _ m_x2
            have hBlo : u2.heap.size ≤ x2.heap.size := m_x2.size
            have hBW : x2.heap.size < wA.heap.size := by rw [← hA]; simp
            have q0 : wA.cell? ⟨x2.heap.size, 0, none⟩ = some (.slice none 0 0) := by rw [← hA]; simp [go_sem]
            have q1 : wA.cell? ⟨x2.heap.size, 1, none⟩ = some (.int .i64 0) := by rw [← hA]; simp [go_sem]
            have q2 : wA.cell? ⟨x2.heap.size, 2, none⟩ = some (.int .i64 0) := by rw [← hA]; simp [go_sem]
            have f0 : wA.frozen? ⟨x2.heap.size, 0, none⟩ = false := by rw [← hA]; simp [go_sem]
            have f1 : wA.frozen? ⟨x2.heap.size, 1, none⟩ = false := by rw [← hA]; simp [go_sem]
            have f2 : wA.frozen? ⟨x2.heap.size, 2, none⟩ = false := by rw [← hA]; simp [go_sem]
            replace R1 := Lib.hid (R1.out.below (show Below x2.heap.size x2 wA from by rw [← hA]; exact below_new _ _))
            replace R2 := Lib.hid (R2.out.below (show Below x2.heap.size x2 wA from by rw [← hA]; exact below_new _ _))
            replace R3 := Lib.hid (R3.out.below (show Below x2.heap.size x2 wA from by rw [← hA]; exact below_new _ _))
            clear hA
            refine hK.out _ _ (fun _ => ⟨cell_step m_wA xa0_0, cell_step m_wA xa0_1, cell_step m_wA xa0_2, cell_step m_wA xa1_0, cell_step m_wA xa1_1, cell_step m_wA xa1_2, cell_step m_wA xa1_3, cell_step m_wA xa1_4, cell_step m_wA xa1_5, cell_step m_wA xa1_6⟩) ?_
            clear hK K
            try simp only [Act.put, List.setIfInBounds_toArray, List.set_cons_zero, List.set_cons_succ]
            refine d_step 4 (by kernel_rfl) rfl (fun K hK => ?_)
            go_simp
            go_at_call 20
            refine (HS.out hc0 hc1 _ _ R1.out _ _ R2.out R3.out).mono ?_
            rintro e x3 ⟨v3, rfl, o3, k⟩
            obtain ⟨p3, c3, rfl⟩ := o3.form
            have m_x3 : Below u2.heap.size u2 x3 := below_after k m_wA
            replace q0 := (k.cell (p := ⟨x2.heap.size, 0, none⟩) hBW).trans q0
            replace f0 := (k.frozen (p := ⟨x2.heap.size, 0, none⟩) hBW).trans f0
            replace q1 := (k.cell (p := ⟨x2.heap.size, 1, none⟩) hBW).trans q1
            replace f1 := (k.frozen (p := ⟨x2.heap.size, 1, none⟩) hBW).trans f1
            replace q2 := (k.cell (p := ⟨x2.heap.size, 2, none⟩) hBW).trans q2
            replace f2 := (k.frozen (p := ⟨x2.heap.size, 2, none⟩) hBW).trans f2
            have hOB := hBW
            replace hBW := Nat.lt_of_lt_of_le hBW k.size
            have O3 := Lib.hid o3
            have z3 := k.size
            clear o3 R1 R2 R3
            refine hK.out _ _ (fun h => by exact absurd h (by decide)) ?_
            clear hK K k
            try simp only [Act.put, List.setIfInBounds_toArray, List.set_cons_zero, List.set_cons_succ]
            refine d_takeYL (v := ?_) 5 rfl (by kernel_rfl) (fun _ _ _ h => h) (Or.inl ⟨by rfl, ?_⟩) ?_
            rotate_left
            · intro wx _
              first | (go_simp; done) | (go_simp; with_reducible rfl)
            simp only [Act.put, List.setIfInBounds_toArray]
            refine d_takeYL (v := ?_) 6 rfl (by kernel_rfl) (fun _ _ _ h => h) (Or.inl ⟨by rfl, ?_⟩) ?_
            rotate_left
            · intro wx _
              first | (go_simp; done) | (go_simp; with_reducible rfl)
            simp only [Act.put]
            refine d_takeYL (v := ?_) 7 rfl (by kernel_rfl) (fun _ _ _ h => h) (Or.inl ⟨by rfl, ?_⟩) ?_
            rotate_left
            · intro wx _
              first | (go_simp; done) | (go_simp; with_reducible rfl)
            simp only [Act.put]
            refine d_step 9 (by kernel_rfl) rfl (fun K hK => ?_)
            go_simp
            refine hK.out _ _ (fun h => by exact absurd h (by decide)) ?_
            clear hK K
            try simp only [Act.put, List.setIfInBounds_toArray, List.set_cons_zero, List.set_cons_succ]
            refine d_step 10 (by kernel_rfl) rfl (fun K hK => ?_)
            go_simp
            refine hK.out _ _ (fun h => by exact absurd h (by decide)) ?_
            clear hK K
            refine d_done (by kernel_rfl) ?_ _
            try simp only [Act.put, List.setIfInBounds_toArray, List.set_cons_zero, List.set_cons_succ]
            go_wp2_with fail
            go_meet
            exact ⟨_, p3, c3, rfl, by rw [hqq], ⟨hBlo, by simp; omega⟩, by simp [go_sem, q0], by simp [go_sem, q1], by simp [go_sem, q2], Lib.hid ((O3.out.keep (Nat.le_refl _) (by (repeat (first | (with_reducible exact Keep.refl _ _) | (with_reducible refine keep_set ?_ (by first | (simp; done) | (simp; omega) | omega)) | (with_reducible refine keep_alloc _ ?_) | (with_reducible refine keep_drewN ?_ _) | (with_reducible assumption) | (with_reducible refine keep_below (by assumption) ?_))))).mono m_wA.size), by (repeat (first | (with_reducible exact Below.refl _ _) | (with_reducible refine below_setCell ?_ (by first | (simp; done) | (simp; omega) | omega)) | (with_reducible refine below_alloc _ ?_) | (with_reducible refine below_drewN ?_ _) | (with_reducible assumption) | (with_reducible refine below_after (by assumption) ?_)))⟩
        · skip
          go_simp
          generalize hA : World.alloc _ _ = wA
          have m_wA : Below u2.heap.size u2 wA := by rw [← hA]; exact below_alloc _ m_x1
          have hBlo : u2.heap.size ≤ x1.heap.size := m_x1.size
          have hBW : x1.heap.size < wA.heap.size := by rw [← hA]; simp
          have q0 : wA.cell? ⟨x1.heap.size, 0, none⟩ = some (.slice none 0 0) := by rw [← hA]; simp [go_sem]
          have q1 : wA.cell? ⟨x1.heap.size, 1, none⟩ = some (.int .i64 0) := by rw [← hA]; simp [go_sem]
          have q2 : wA.cell? ⟨x1.heap.size, 2, none⟩ = some (.int .i64 0) := by rw [← hA]; simp [go_sem]
          have f0 : wA.frozen? ⟨x1.heap.size, 0, none⟩ = false := by rw [← hA]; simp [go_sem]
          have f1 : wA.frozen? ⟨x1.heap.size, 1, none⟩ = false := by rw [← hA]; simp [go_sem]
          have f2 : wA.frozen? ⟨x1.heap.size, 2, none⟩ = false := by rw [← hA]; simp [go_sem]
          replace R1 := Lib.hid (R1.out.below (show Below x1.heap.size x1 wA from by rw [← hA]; exact below_new _ _))
          clear hA
          refine hK.out _ _ (fun _ => ⟨cell_step m_wA xa0_0, cell_step m_wA xa0_1, cell_step m_wA xa0_2, cell_step m_wA xa1_0, cell_step m_wA xa1_1, cell_step m_wA xa1_2, cell_step m_wA xa1_3, cell_step m_wA xa1_4, cell_step m_wA xa1_5, cell_step m_wA xa1_6⟩) ?_
          clear hK K
          try simp only [Act.put, List.setIfInBounds_toArray, List.set_cons_zero, List.set_cons_succ]
          refine d_step 3 (by kernel_rfl) rfl (fun K hK => ?_)
          go_simp
          go_at_call 21
          refine (Ht1.out hc1 _ (s1.below m_wA).rd1 (s1.below m_wA).rd2).mono ?_
          rintro e x2 ⟨tt2, vv2, tt3, vv3, rfl, o2, k⟩
          have m_x2 : Below u2.heap.size u2 x2 := below_after k m_wA
          replace q0 := (k.cell (p := ⟨x1.heap.size, 0, none⟩) hBW).trans q0
          replace f0 := (k.frozen (p := ⟨x1.heap.size, 0, none⟩) hBW).trans f0
          replace q1 := (k.cell (p := ⟨x1.heap.size, 1, none⟩) hBW).trans q1
          replace f1 := (k.frozen (p := ⟨x1.heap.size, 1, none⟩) hBW).trans f1
          replace q2 := (k.cell (p := ⟨x1.heap.size, 2, none⟩) hBW).trans q2
          replace f2 := (k.frozen (p := ⟨x1.heap.size, 2, none⟩) hBW).trans f2
          replace hBW := Nat.lt_of_lt_of_le hBW k.size
          replace R1 := Lib.hid (R1.out.below k)
          have R2 := Lib.hid o2.rd1
          have R3 := Lib.hid o2.rd2
          clear o2
          refine hK.out _ _ (fun _ => ⟨cell_step m_x2 xa0_0, cell_step m_x2 xa0_1, cell_step m_x2 xa0_2, cell_step m_x2 xa1_0, cell_step m_x2 xa1_1, cell_step m_x2 xa1_2, cell_step m_x2 xa1_3, cell_step m_x2 xa1_4, cell_step m_x2 xa1_5, cell_step m_x2 xa1_6⟩) ?_
          clear hK K k
          try simp only [Act.put, List.setIfInBounds_toArray, List.set_cons_zero, List.set_cons_succ]
          refine d_step 4 (by kernel_rfl) rfl (fun K hK => ?_)
          go_simp
          go_at_call 20
          refine (HS.out hc0 hc1 _ _ R1.out _ _ R2.out R3.out).mono ?_
          rintro e x3 ⟨v3, rfl, o3, k⟩
          obtain ⟨p3, c3, rfl⟩ := o3.form
          have m_x3 : Below u2.heap.size u2 x3 := below_after k m_x2
          replace q0 := (k.cell (p := ⟨x1.heap.size, 0, none⟩) hBW).trans q0
          replace f0 := (k.frozen (p := ⟨x1.heap.size, 0, none⟩) hBW).trans f0
          replace q1 := (k.cell (p := ⟨x1.heap.size, 1, none⟩) hBW).trans q1
          replace f1 := (k.frozen (p := ⟨x1.heap.size, 1, none⟩) hBW).trans f1
          replace q2 := (k.cell (p := ⟨x1.heap.size, 2, none⟩) hBW).trans q2
          replace f2 := (k.frozen (p := ⟨x1.heap.size, 2, none⟩) hBW).trans f2
          have hOB := hBW
          replace hBW := Nat.lt_of_lt_of_le hBW k.size
          have O3 := Lib.hid o3
          have z3 := k.size
          clear o3 R1 R2 R3
          refine hK.out _ _ (fun h => by exact absurd h (by decide)) ?_
          clear hK K k
          try simp only [Act.put, List.setIfInBounds_toArray, List.set_cons_zero, List.set_cons_succ]
          refine d_takeYL (v := ?_) 5 rfl (by kernel_rfl) (fun _ _ _ h => h) (Or.inl ⟨by rfl, ?_⟩) ?_
          rotate_left
          · intro wx _
            first | (go_simp; done) | (go_simp; with_reducible rfl)
          simp only [Act.put, List.setIfInBounds_toArray]
          refine d_takeYL (v := ?_) 6 rfl (by kernel_rfl) (fun _ _ _ h => h) (Or.inl ⟨by rfl, ?_⟩) ?_
          rotate_left
          · intro wx _
            first | (go_simp; done) | (go_simp; with_reducible rfl)
          simp only [Act.put]
          refine d_takeYL (v := ?_) 7 rfl (by kernel_rfl) (fun _ _ _ h => h) (Or.inl ⟨by rfl, ?_⟩) ?_
          rotate_left
          · intro wx _
            first | (go_simp; done) | (go_simp; with_reducible rfl)
          simp only [Act.put]
          refine d_step 9 (by kernel_rfl) rfl (fun K hK => ?_)
          go_simp
          refine hK.out _ _ (fun h => by exact absurd h (by decide)) ?_
          clear hK K
          try simp only [Act.put, List.setIfInBounds_toArray, List.set_cons_zero, List.set_cons_succ]
          refine d_step 10 (by kernel_rfl) rfl (fun K hK => ?_)
          go_simp
          refine hK.out _ _ (fun h => by exact absurd h (by decide)) ?_
          clear hK K
          refine d_done (by kernel_rfl) ?_ _
          try simp only [Act.put, List.setIfInBounds_toArray, List.set_cons_zero, List.set_cons_succ]
          go_wp2_with fail
          go_meet
          exact ⟨_, p3, c3, rfl, by rw [hqq], ⟨hBlo, by simp; omega⟩, by simp [go_sem, q0], by simp [go_sem, q1], by simp [go_sem, q2], Lib.hid ((O3.out.keep (Nat.le_refl _) (by (repeat (first | (with_reducible exact Keep.refl _ _) | (with_reducible refine keep_set ?_ (by first | (simp; done) | (simp; omega) | omega)) | (with_reducible refine keep_alloc _ ?_) | (with_reducible refine keep_drewN ?_ _) | (with_reducible assumption) | (with_reducible refine keep_below (by assumption) ?_))))).mono m_x2.size), by (repeat (first | (with_reducible exact Below.refl _ _) | (with_reducible refine below_setCell ?_ (by first | (simp; done) | (simp; omega) | omega)) | (with_reducible refine below_alloc _ ?_) | (with_reducible refine below_drewN ?_ _) | (with_reducible assumption) | (with_reducible refine below_after (by assumption) ?_)))⟩
      · skip
        go_simp
        generalize hA : World.drew (World.alloc _ _) = wA
        have m_wA : Below u2.heap.size u2 wA := by rw [← hA]; (repeat (first | (with_reducible exact Below.refl _ _) | (with_reducible refine below_setCell ?_ (by first | (simp; done) | (simp; omega) | omega)) | (with_reducible refine below_alloc _ ?_) | (with_reducible refine below_drewN ?_ _) | (with_reducible refine below_drew_step ?_) | (with_reducible assumption) | (with_reducible refine below_after (by assumption) ?_)))
        have hBlo : u2.heap.size ≤ u2.heap.size := Nat.le_refl _
        have hBW : u2.heap.size < wA.heap.size := by rw [← hA]; simp
        have q0 : wA.cell? ⟨u2.heap.size, 0, none⟩ = some (.slice none 0 0) := by rw [← hA]; simp [go_sem]
        have q1 : wA.cell? ⟨u2.heap.size, 1, none⟩ = some (.int .i64 0) := by rw [← hA]; simp [go_sem]
        have q2 : wA.cell? ⟨u2.heap.size, 2, none⟩ = some (.int .i64 0) := by rw [← hA]; simp [go_sem]
        have f0 : wA.frozen? ⟨u2.heap.size, 0, none⟩ = false := by rw [← hA]; simp [go_sem]
        have f1 : wA.frozen? ⟨u2.heap.size, 1, none⟩ = false := by rw [← hA]; simp [go_sem]
        have f2 : wA.frozen? ⟨u2.heap.size, 2, none⟩ = false := by rw [← hA]; simp [go_sem]
        clear hA
        refine hK.out _ _ (fun _ => ⟨cell_step m_wA xa0_0, cell_step m_wA xa0_1, cell_step m_wA xa0_2, cell_step m_wA xa1_0, cell_step m_wA xa1_1, cell_step m_wA xa1_2, cell_step m_wA xa1_3, cell_step m_wA xa1_4, cell_step m_wA xa1_5, cell_step m_wA xa1_6⟩) ?_
        clear hK K
        try simp only [Act.put, List.setIfInBounds_toArray, List.set_cons_zero, List.set_cons_succ]
        refine d_step 1 (by kernel_rfl) rfl (fun K hK => ?_)
        go_simp
        go_at_call 12
        refine (Ht0.out hc0 _ (s0.below m_wA).rd).mono ?_
        rintro e x1 ⟨tt1, vv1, rfl, o1, k⟩
        have m_x1 : Below u2.heap.size u2 x1 := below_after k m_wA
        replace q0 := (k.cell (p := ⟨u2.heap.size, 0, none⟩) hBW).trans q0
        replace f0 := (k.frozen (p := ⟨u2.heap.size, 0, none⟩) hBW).trans f0
        replace q1 := (k.cell (p := ⟨u2.heap.size, 1, none⟩) hBW).trans q1
        replace f1 := (k.frozen (p := ⟨u2.heap.size, 1, none⟩) hBW).trans f1
        replace q2 := (k.cell (p := ⟨u2.heap.size, 2, none⟩) hBW).trans q2
        replace f2 := (k.frozen (p := ⟨u2.heap.size, 2, none⟩) hBW).trans f2
        replace hBW := Nat.lt_of_lt_of_le hBW k.size
        have R1 := Lib.hid o1.rd
        clear o1
        refine hK.out _ _ (fun _ => ⟨cell_step m_x1 xa0_0, cell_step m_x1 xa0_1, cell_step m_x1 xa0_2, cell_step m_x1 xa1_0, cell_step m_x1 xa1_1, cell_step m_x1 xa1_2, cell_step m_x1 xa1_3, cell_step m_x1 xa1_4, cell_step m_x1 xa1_5, cell_step m_x1 xa1_6⟩) ?_
        clear hK K k
        try simp only [Act.put, List.setIfInBounds_toArray, List.set_cons_zero, List.set_cons_succ]
        refine d_step 3 (by kernel_rfl) rfl (fun K hK => ?_)
        go_simp
        go_at_call 21
        refine (Ht1.out hc1 _ (s1.below m_x1).rd1 (s1.below m_x1).rd2).mono ?_
        rintro e x2 ⟨tt2, vv2, tt3, vv3, rfl, o2, k⟩
        have m_x2 : Below u2.heap.size u2 x2 := below_after k m_x1
        replace q0 := (k.cell (p := ⟨u2.heap.size, 0, none⟩) hBW).trans q0
        replace f0 := (k.frozen (p := ⟨u2.heap.size, 0, none⟩) hBW).trans f0
        replace q1 := (k.cell (p := ⟨u2.heap.size, 1, none⟩) hBW).trans q1
        replace f1 := (k.frozen (p := ⟨u2.heap.size, 1, none⟩) hBW).trans f1
        replace q2 := (k.cell (p := ⟨u2.heap.size, 2, none⟩) hBW).trans q2
        replace f2 := (k.frozen (p := ⟨u2.heap.size, 2, none⟩) hBW).trans f2
        replace hBW := Nat.lt_of_lt_of_le hBW k.size
        replace R1 := Lib.hid (R1.out.below k)
        have R2 := Lib.hid o2.rd1
        have R3 := Lib.hid o2.rd2
        clear o2
        refine hK.out _ _ (fun _ => ⟨cell_step m_x2 xa0_0, cell_step m_x2 xa0_1, cell_step m_x2 xa0_2, cell_step m_x2 xa1_0, cell_step m_x2 xa1_1, cell_step m_x2 xa1_2, cell_step m_x2 xa1_3, cell_step m_x2 xa1_4, cell_step m_x2 xa1_5, cell_step m_x2 xa1_6⟩) ?_
        clear hK K k
        try simp only [Act.put, List.setIfInBounds_toArray, List.set_cons_zero, List.set_cons_succ]
        refine d_step 4 (by kernel_rfl) rfl (fun K hK => ?_)
        go_simp
        go_at_call 20
        refine (HS.out hc0 hc1 _ _ R1.out _ _ R2.out R3.out).mono ?_
        rintro e x3 ⟨v3, rfl, o3, k⟩
        obtain ⟨p3, c3, rfl⟩ := o3.form
        have m_x3 : Below u2.heap.size u2 x3 := below_after k m_x2
        replace q0 := (k.cell (p := ⟨u2.heap.size, 0, none⟩) hBW).trans q0
        replace f0 := (k.frozen (p := ⟨u2.heap.size, 0, none⟩) hBW).trans f0
        replace q1 := (k.cell (p := ⟨u2.heap.size, 1, none⟩) hBW).trans q1
        replace f1 := (k.frozen (p := ⟨u2.heap.size, 1, none⟩) hBW).trans f1
        replace q2 := (k.cell (p := ⟨u2.heap.size, 2, none⟩) hBW).trans q2
        replace f2 := (k.frozen (p := ⟨u2.heap.size, 2, none⟩) hBW).trans f2
        have hOB := hBW
        replace hBW := Nat.lt_of_lt_of_le hBW k.size
        have O3 := Lib.hid o3
        have z3 := k.size
        clear o3 R1 R2 R3
        refine hK.out _ _ (fun h => by exact absurd h (by decide)) ?_
        clear hK K k
        try simp only [Act.put, List.setIfInBounds_toArray, List.set_cons_zero, List.set_cons_succ]
        refine d_takeYL (v := ?_) 5 rfl (by kernel_rfl) (fun _ _ _ h => h) (Or.inl ⟨by rfl, ?_⟩) ?_
        rotate_left
        · intro wx _
          first | (go_simp; done) | (go_simp; with_reducible rfl)
        simp only [Act.put, List.setIfInBounds_toArray]
        refine d_takeYL (v := ?_) 6 rfl (by kernel_rfl) (fun _ _ _ h => h) (Or.inl ⟨by rfl, ?_⟩) ?_
        rotate_left
        · intro wx _
          first | (go_simp; done) | (go_simp; with_reducible rfl)
        simp only [Act.put]
        refine d_takeYL (v := ?_) 7 rfl (by kernel_rfl) (fun _ _ _ h => h) (Or.inl ⟨by rfl, ?_⟩) ?_
        rotate_left
        · intro wx _
          first | (go_simp; done) | (go_simp; with_reducible rfl)
        simp only [Act.put]
        refine d_step 9 (by kernel_rfl) rfl (fun K hK => ?_)
        go_simp
        refine hK.out _ _ (fun h => by exact absurd h (by decide)) ?_
        clear hK K
        try simp only [Act.put, List.setIfInBounds_toArray, List.set_cons_zero, List.set_cons_succ]
        refine d_step 10 (by kernel_rfl) rfl (fun K hK => ?_)
        go_simp
        refine hK.out _ _ (fun h => by exact absurd h (by decide)) ?_
        clear hK K
        refine d_done (by kernel_rfl) ?_ _
        try simp only [Act.put, List.setIfInBounds_toArray, List.set_cons_zero, List.set_cons_succ]
        go_wp2_with fail
        go_meet
        exact ⟨_, p3, c3, rfl, by rw [hqq], ⟨hBlo, by simp; omega⟩, by simp [go_sem, q0], by simp [go_sem, q1], by simp [go_sem, q2], Lib.hid ((O3.out.keep (Nat.le_refl _) (by (repeat (first | (with_reducible exact Keep.refl _ _) | (with_reducible refine keep_set ?_ (by first | (simp; done) | (simp; omega) | omega)) | (with_reducible refine keep_alloc _ ?_) | (with_reducible refine keep_drewN ?_ _) | (with_reducible assumption) | (with_reducible refine keep_below (by assumption) ?_))))).mono m_x2.size), by (repeat (first | (with_reducible exact Below.refl _ _) | (with_reducible refine below_setCell ?_ (by first | (simp; done) | (simp; omega) | omega)) | (with_reducible refine below_alloc _ ?_) | (with_reducible refine below_drewN ?_ _) | (with_reducible assumption) | (with_reducible refine below_after (by assumption) ?_)))⟩
    case rest =>
      obtain ⟨Brw, prw, erw, rfl, hsb, ⟨hBrw, qBrw⟩, xrw_0, xrw_1, xrw_2, orw, k3⟩ := hcut
      rw [hqq] at hsb
      obtain rfl := hsb
      obtain ⟨u3, rfl⟩ : ∃ u3 : World, u3 = wc := ⟨_, rfl⟩
      have rw := orw.out.within
      clear orw
      have yBrw := qBrw
      have m3 : Below u2.heap.size u2 u3 := below_after k3 (by (repeat (first | (with_reducible exact Below.refl _ _) | (with_reducible refine below_setCell ?_ (by first | (simp; done) | (simp; omega) | omega)) | (with_reducible refine below_alloc _ ?_) | (with_reducible refine below_drewN ?_ _) | (with_reducible assumption) | (with_reducible refine below_after (by assumption) ?_))))
      replace s0 := s0.below m3
      replace s1 := s1.below m3
      replace xa0_0 := cell_step m3 xa0_0
      replace xa0_1 := cell_step m3 xa0_1
      replace xa0_2 := cell_step m3 xa0_2
      replace xa1_0 := cell_step m3 xa1_0
      replace xa1_1 := cell_step m3 xa1_1
      replace xa1_2 := cell_step m3 xa1_2
      replace xa1_3 := cell_step m3 xa1_3
      replace xa1_4 := cell_step m3 xa1_4
      replace xa1_5 := cell_step m3 xa1_5
      replace xa1_6 := cell_step m3 xa1_6
      replace qxa0 := Nat.lt_of_lt_of_le qxa0 m3.size
      replace qxa1 := Nat.lt_of_lt_of_le qxa1 m3.size
      have z3 : u2.heap.size ≤ u3.heap.size := m3.size
      replace b := m3.mono b.size |> b.trans
      clear m3 k3
      go_wp2_with fail
      refine (Ht0.out hc0 _ (s0.below (by (repeat (first | (with_reducible exact Below.refl _ _) | (with_reducible refine below_setCell ?_ (by first | (simp; done) | (simp; omega) | omega)) | (with_reducible refine below_alloc _ ?_) | (with_reducible refine below_drewN ?_ _) | (with_reducible assumption) | (with_reducible refine below_after (by assumption) ?_))))).rd).mono ?_
      rintro e u4 ⟨pax0, eax0, rfl, oax0, k4⟩
      have ax0 := (Own.mono oax0 (Below.size (B := u3.heap.size) (w := u3) (by (repeat (first | (with_reducible exact Below.refl _ _) | (with_reducible refine below_setCell ?_ (by first | (simp; done) | (simp; omega) | omega)) | (with_reducible refine below_alloc _ ?_) | (with_reducible refine below_drewN ?_ _) | (with_reducible assumption) | (with_reducible refine below_after (by assumption) ?_)))))).within
      clear oax0
      have m4 : Below u3.heap.size u3 u4 := below_after k4 (by (repeat (first | (with_reducible exact Below.refl _ _) | (with_reducible refine below_setCell ?_ (by first | (simp; done) | (simp; omega) | omega)) | (with_reducible refine below_alloc _ ?_) | (with_reducible refine below_drewN ?_ _) | (with_reducible assumption) | (with_reducible refine below_after (by assumption) ?_))))
      replace s0 := s0.below m4
      replace s1 := s1.below m4
      replace rw := rw.below m4
      replace xa0_0 := cell_step m4 xa0_0
      replace xa0_1 := cell_step m4 xa0_1
      replace xa0_2 := cell_step m4 xa0_2
      replace xa1_0 := cell_step m4 xa1_0
      replace xa1_1 := cell_step m4 xa1_1
      replace xa1_2 := cell_step m4 xa1_2
      replace xa1_3 := cell_step m4 xa1_3
      replace xa1_4 := cell_step m4 xa1_4
      replace xa1_5 := cell_step m4 xa1_5
      replace xa1_6 := cell_step m4 xa1_6
      replace xrw_0 := cell_step m4 xrw_0
      replace xrw_1 := cell_step m4 xrw_1
      replace xrw_2 := cell_step m4 xrw_2
      replace qxa0 := Nat.lt_of_lt_of_le qxa0 m4.size
      replace qxa1 := Nat.lt_of_lt_of_le qxa1 m4.size
      replace qBrw := Nat.lt_of_lt_of_le qBrw m4.size
      have z4 : u3.heap.size ≤ u4.heap.size := m4.size
      replace b := m4.mono b.size |> b.trans
      clear m4 k4
      go_wp2_with fail
      refine (Ht1.out hc1 _ (s1.below (by (repeat (first | (with_reducible exact Below.refl _ _) | (with_reducible refine below_setCell ?_ (by first | (simp; done) | (simp; omega) | omega)) | (with_reducible refine below_alloc _ ?_) | (with_reducible refine below_drewN ?_ _) | (with_reducible assumption) | (with_reducible refine below_after (by assumption) ?_))))).rd1 (s1.below (by (repeat (first | (with_reducible exact Below.refl _ _) | (with_reducible refine below_setCell ?_ (by first | (simp; done) | (simp; omega) | omega)) | (with_reducible refine below_alloc _ ?_) | (with_reducible refine below_drewN ?_ _) | (with_reducible assumption) | (with_reducible refine below_after (by assumption) ?_))))).rd2).mono ?_
      rintro e u5 ⟨pax1, eax1, pax1', eax1', rfl, oax1, k5⟩
      have ax1 := (ROwn.mono oax1 (lo' := u4.heap.size + 1) (by first | (simp; done) | (simp; omega) | omega))
      clear oax1
      have m5 : Below u4.heap.size u4 u5 := below_after k5 (by (repeat (first | (with_reducible exact Below.refl _ _) | (with_reducible refine below_setCell ?_ (by first | (simp; done) | (simp; omega) | omega)) | (with_reducible refine below_alloc _ ?_) | (with_reducible refine below_drewN ?_ _) | (with_reducible assumption) | (with_reducible refine below_after (by assumption) ?_))))
      replace s0 := s0.below m5
      replace s1 := s1.below m5
      replace rw := rw.below m5
      replace ax0 := ax0.below m5
      replace xa0_0 := cell_step m5 xa0_0
      replace xa0_1 := cell_step m5 xa0_1
      replace xa0_2 := cell_step m5 xa0_2
      replace xa1_0 := cell_step m5 xa1_0
      replace xa1_1 := cell_step m5 xa1_1
      replace xa1_2 := cell_step m5 xa1_2
      replace xa1_3 := cell_step m5 xa1_3
      replace xa1_4 := cell_step m5 xa1_4
      replace xa1_5 := cell_step m5 xa1_5
      replace xa1_6 := cell_step m5 xa1_6
      replace xrw_0 := cell_step m5 xrw_0
      replace xrw_1 := cell_step m5 xrw_1
      replace xrw_2 := cell_step m5 xrw_2
      replace qxa0 := Nat.lt_of_lt_of_le qxa0 m5.size
      replace qxa1 := Nat.lt_of_lt_of_le qxa1 m5.size
      replace qBrw := Nat.lt_of_lt_of_le qBrw m5.size
      have qxax0 : u4.heap.size < u5.heap.size := by have := k5.size; simp at this; omega
      have yqxax0 := qxax0
      have xax0_0 : u5.cell? ⟨u4.heap.size, 0, none⟩ = some (.slice pax0 y0.Reps.length eax0) := by rw [(bcell k5).1 _ _ (by first | (simp; done) | (simp; omega))]; simp [go_sem]
      have xax0_1 : u5.cell? ⟨u4.heap.size, 1, none⟩ = some (.int .i64 y0.Term) := by rw [(bcell k5).1 _ _ (by first | (simp; done) | (simp; omega))]; simp [go_sem]
      have xax0_2 : u5.cell? ⟨u4.heap.size, 2, none⟩ = some (.int .i64 y0.Lead) := by rw [(bcell k5).1 _ _ (by first | (simp; done) | (simp; omega))]; simp [go_sem]
      have z5 : u4.heap.size ≤ u5.heap.size := m5.size
      replace b := m5.mono b.size |> b.trans
      clear m5 k5
      go_wp2_with fail
      refine (HI.out hc0 hc1 _ _ (ax0.below (by (repeat (first | (with_reducible exact Below.refl _ _) | (with_reducible refine below_setCell ?_ (by first | (simp; done) | (simp; omega) | omega)) | (with_reducible refine below_alloc _ ?_) | (with_reducible refine below_drewN ?_ _) | (with_reducible assumption) | (with_reducible refine below_after (by assumption) ?_))))).rd _ _ (ax1.below (by (repeat (first | (with_reducible exact Below.refl _ _) | (with_reducible refine below_setCell ?_ (by first | (simp; done) | (simp; omega) | omega)) | (with_reducible refine below_alloc _ ?_) | (with_reducible refine below_drewN ?_ _) | (with_reducible assumption) | (with_reducible refine below_after (by assumption) ?_))))).rd1 (ax1.below (by (repeat (first | (with_reducible exact Below.refl _ _) | (with_reducible refine below_setCell ?_ (by first | (simp; done) | (simp; omega) | omega)) | (with_reducible refine below_alloc _ ?_) | (with_reducible refine below_drewN ?_ _) | (with_reducible assumption) | (with_reducible refine below_after (by assumption) ?_))))).rd2).mono ?_
      rintro e u6 ⟨vrg, rfl, org, k6⟩
      obtain ⟨prg, erg, rfl⟩ := org.form
      have rg := (Own.mono org (base' := u5.heap.size + 1) (by first | (simp; done) | (simp; omega) | omega)).within
      clear org
      have m6 : Below u5.heap.size u5 u6 := below_after k6 (by (repeat (first | (with_reducible exact Below.refl _ _) | (with_reducible refine below_setCell ?_ (by first | (simp; done) | (simp; omega) | omega)) | (with_reducible refine below_alloc _ ?_) | (with_reducible refine below_drewN ?_ _) | (with_reducible assumption) | (with_reducible refine below_after (by assumption) ?_))))
      replace s0 := s0.below m6
      replace s1 := s1.below m6
      replace rw := rw.below m6
      replace ax0 := ax0.below m6
      replace ax1 := ax1.below m6
      replace xa0_0 := cell_step m6 xa0_0
      replace xa0_1 := cell_step m6 xa0_1
      replace xa0_2 := cell_step m6 xa0_2
      replace xa1_0 := cell_step m6 xa1_0
      replace xa1_1 := cell_step m6 xa1_1
      replace xa1_2 := cell_step m6 xa1_2
      replace xa1_3 := cell_step m6 xa1_3
      replace xa1_4 := cell_step m6 xa1_4
      replace xa1_5 := cell_step m6 xa1_5
      replace xa1_6 := cell_step m6 xa1_6
      replace xrw_0 := cell_step m6 xrw_0
      replace xrw_1 := cell_step m6 xrw_1
      replace xrw_2 := cell_step m6 xrw_2
      replace xax0_0 := cell_step m6 xax0_0
      replace xax0_1 := cell_step m6 xax0_1
      replace xax0_2 := cell_step m6 xax0_2
      replace qxa0 := Nat.lt_of_lt_of_le qxa0 m6.size
      replace qxa1 := Nat.lt_of_lt_of_le qxa1 m6.size
      replace qBrw := Nat.lt_of_lt_of_le qBrw m6.size
      replace qxax0 := Nat.lt_of_lt_of_le qxax0 m6.size
      have qxax1 : u5.heap.size < u6.heap.size := by have := k6.size; simp at this; omega
      have yqxax1 := qxax1
      have xax1_0 : u6.cell? ⟨u5.heap.size, 0, none⟩ = some (.int .i64 y1.Kind) := by rw [(bcell k6).1 _ _ (by first | (simp; done) | (simp; omega))]; simp [go_sem]
      have xax1_1 : u6.cell? ⟨u5.heap.size, 1, none⟩ = some (.int .i64 y1.Txn) := by rw [(bcell k6).1 _ _ (by first | (simp; done) | (simp; omega))]; simp [go_sem]
      have xax1_2 : u6.cell? ⟨u5.heap.size, 2, none⟩ = some (.int .i64 y1.Time) := by rw [(bcell k6).1 _ _ (by first | (simp; done) | (simp; omega))]; simp [go_sem]
      have xax1_3 : u6.cell? ⟨u5.heap.size, 3, none⟩ = some (.int .i64 y1.Lead) := by rw [(bcell k6).1 _ _ (by first | (simp; done) | (simp; omega))]; simp [go_sem]
      have xax1_4 : u6.cell? ⟨u5.heap.size, 4, none⟩ = some (.slice pax1 y1.Reads.length eax1) := by rw [(bcell k6).1 _ _ (by first | (simp; done) | (simp; omega))]; simp [go_sem]
      have xax1_5 : u6.cell? ⟨u5.heap.size, 5, none⟩ = some (.slice pax1' y1.Writes.length eax1') := by rw [(bcell k6).1 _ _ (by first | (simp; done) | (simp; omega))]; simp [go_sem]
      have xax1_6 : u6.cell? ⟨u5.heap.size, 6, none⟩ = some (.bool y1.Yes) := by rw [(bcell k6).1 _ _ (by first | (simp; done) | (simp; omega))]; simp [go_sem]
      have z6 : u5.heap.size ≤ u6.heap.size := m6.size
      replace b := m6.mono b.size |> b.trans
      clear m6 k6
      go_wp2_with fail
      refine (HeR.out hcR _ _ _ (rg.below (by (repeat (first | (with_reducible exact Below.refl _ _) | (with_reducible refine below_setCell ?_ (by first | (simp; done) | (simp; omega) | omega)) | (with_reducible refine below_alloc _ ?_) | (with_reducible refine below_drewN ?_ _) | (with_reducible assumption) | (with_reducible refine below_after (by assumption) ?_))))).rd (rw.below (by (repeat (first | (with_reducible exact Below.refl _ _) | (with_reducible refine below_setCell ?_ (by first | (simp; done) | (simp; omega) | omega)) | (with_reducible refine below_alloc _ ?_) | (with_reducible refine below_drewN ?_ _) | (with_reducible assumption) | (with_reducible refine below_after (by assumption) ?_))))).rd).mono ?_
      rintro e u7 ⟨rfl, k7⟩
      have m7 : Below u6.heap.size u6 u7 := below_after k7 (by (repeat (first | (with_reducible exact Below.refl _ _) | (with_reducible refine below_setCell ?_ (by first | (simp; done) | (simp; omega) | omega)) | (with_reducible refine below_alloc _ ?_) | (with_reducible refine below_drewN ?_ _) | (with_reducible assumption) | (with_reducible refine below_after (by assumption) ?_))))
      replace s0 := s0.below m7
      replace s1 := s1.below m7
      replace rw := rw.below m7
      replace ax0 := ax0.below m7
      replace ax1 := ax1.below m7
      replace rg := rg.below m7
      replace xa0_0 := cell_step m7 xa0_0
      replace xa0_1 := cell_step m7 xa0_1
      replace xa0_2 := cell_step m7 xa0_2
      replace xa1_0 := cell_step m7 xa1_0
      replace xa1_1 := cell_step m7 xa1_1
      replace xa1_2 := cell_step m7 xa1_2
      replace xa1_3 := cell_step m7 xa1_3
      replace xa1_4 := cell_step m7 xa1_4
      replace xa1_5 := cell_step m7 xa1_5
      replace xa1_6 := cell_step m7 xa1_6
      replace xrw_0 := cell_step m7 xrw_0
      replace xrw_1 := cell_step m7 xrw_1
      replace xrw_2 := cell_step m7 xrw_2
      replace xax0_0 := cell_step m7 xax0_0
      replace xax0_1 := cell_step m7 xax0_1
      replace xax0_2 := cell_step m7 xax0_2
      replace xax1_0 := cell_step m7 xax1_0
      replace xax1_1 := cell_step m7 xax1_1
      replace xax1_2 := cell_step m7 xax1_2
      replace xax1_3 := cell_step m7 xax1_3
      replace xax1_4 := cell_step m7 xax1_4
      replace xax1_5 := cell_step m7 xax1_5
      replace xax1_6 := cell_step m7 xax1_6
      replace qxa0 := Nat.lt_of_lt_of_le qxa0 m7.size
      replace qxa1 := Nat.lt_of_lt_of_le qxa1 m7.size
      replace qBrw := Nat.lt_of_lt_of_le qBrw m7.size
      replace qxax0 := Nat.lt_of_lt_of_le qxax0 m7.size
      replace qxax1 := Nat.lt_of_lt_of_le qxax1 m7.size
      have qxrg : u6.heap.size < u7.heap.size := by have := k7.size; simp at this; omega
      have yqxrg := qxrg
      have xrg_0 : u7.cell? ⟨u6.heap.size, 0, none⟩ = some (.slice prg res.Reps.length erg) := by rw [(bcell k7).1 _ _ (by first | (simp; done) | (simp; omega))]; simp [go_sem]
      have xrg_1 : u7.cell? ⟨u6.heap.size, 1, none⟩ = some (.int .i64 res.Term) := by rw [(bcell k7).1 _ _ (by first | (simp; done) | (simp; omega))]; simp [go_sem]
      have xrg_2 : u7.cell? ⟨u6.heap.size, 2, none⟩ = some (.int .i64 res.Lead) := by rw [(bcell k7).1 _ _ (by first | (simp; done) | (simp; omega))]; simp [go_sem]
      have z7 : u6.heap.size ≤ u7.heap.size := m7.size
      replace b := m7.mono b.size |> b.trans
      clear m7 k7
      go_upto_region 14 with fail
      go_cut [58] (fun s wx => s = .bool false ∧ Below u7.heap.size u7 wx)
      case first =>
        go_region_with (first
          | (go_at_call 12; (with_reducible refine (Ht0.out hc0 _ (s0.below (by (repeat (first | (with_reducible exact Below.refl _ _) | (with_reducible refine below_setCell ?_ (by first | (simp; done) | (simp; omega) | omega)) | (with_reducible refine below_alloc _ ?_) | (with_reducible refine below_drewN ?_ _) | (with_reducible refine below_drew_step ?_) | (with_reducible assumption) | (with_reducible refine below_after (by assumption) ?_))))).rd).mono ?_); rintro e x1 ⟨tt1, vv1, rfl, o1, k⟩; have hx1 := bcell k; have m1 : Below u7.heap.size u7 x1 := below_after k (by (repeat (first | (with_reducible exact Below.refl _ _) | (with_reducible refine below_setCell ?_ (by first | (simp; done) | (simp; omega) | omega)) | (with_reducible refine below_alloc _ ?_) | (with_reducible refine below_drewN ?_ _) | (with_reducible refine below_drew_step ?_) | (with_reducible assumption) | (with_reducible refine below_after (by assumption) ?_)))); have r1 := o1.rd; have g0 := cell_step m1 xax0_0; have g1 := cell_step m1 xax0_1; have g2 := cell_step m1 xax0_2; clear o1 k)
          | (go_at_call 14; refine (He0.out hc0 _ _ _ (ax0.below (by (repeat (first | (with_reducible exact Below.refl _ _) | (with_reducible refine below_setCell ?_ (by first | (simp; done) | (simp; omega) | omega)) | (with_reducible refine below_alloc _ ?_) | (with_reducible refine below_drewN ?_ _) | (with_reducible refine below_drew_step ?_) | (with_reducible assumption) | (with_reducible refine below_after (by assumption) ?_))))).rd (r1.below (by (repeat (first | (with_reducible exact Below.refl _ _) | (with_reducible refine below_setCell ?_ (by first | (simp; done) | (simp; omega) | omega)) | (with_reducible refine below_alloc _ ?_) | (with_reducible refine below_drewN ?_ _) | (with_reducible refine below_drew_step ?_) | (with_reducible assumption) | (with_reducible refine below_after (by assumption) ?_)))))).mono ?_; rintro e x3 ⟨rfl, k⟩; replace m1 := below_after k (show Below u7.heap.size u7 _ from by (repeat (first | (with_reducible exact Below.refl _ _) | (with_reducible refine below_setCell ?_ (by first | (simp; done) | (simp; omega) | omega)) | (with_reducible refine below_alloc _ ?_) | (with_reducible refine below_drewN ?_ _) | (with_reducible refine below_drew_step ?_) | (with_reducible assumption) | (with_reducible refine below_after (by assumption) ?_)))); clear k))
        all_goals (go_wp2_with fail; go_meet; exact ⟨rfl, by (repeat (first | (with_reducible exact Below.refl _ _) | (with_reducible refine below_setCell ?_ (by first | (simp; done) | (simp; omega) | omega)) | (with_reducible refine below_alloc _ ?_) | (with_reducible refine below_drewN ?_ _) | (with_reducible refine below_drew_step ?_) | (with_reducible assumption) | (with_reducible refine below_after (by assumption) ?_)))⟩)
      case rest =>
        obtain ⟨rfl, k8⟩ := hcut
        obtain ⟨u8, rfl⟩ : ∃ u8 : World, u8 = wc := ⟨_, rfl⟩
        have m8 : Below u7.heap.size u7 u8 := below_after k8 (by (repeat (first | (with_reducible exact Below.refl _ _) | (with_reducible refine below_setCell ?_ (by first | (simp; done) | (simp; omega) | omega)) | (with_reducible refine below_alloc _ ?_) | (with_reducible refine below_drewN ?_ _) | (with_reducible assumption) | (with_reducible refine below_after (by assumption) ?_))))
        replace s0 := s0.below m8
        replace s1 := s1.below m8
        replace rw := rw.below m8
        replace ax0 := ax0.below m8
        replace ax1 := ax1.below m8
        replace rg := rg.below m8
        replace xa0_0 := cell_step m8 xa0_0
        replace xa0_1 := cell_step m8 xa0_1
        replace xa0_2 := cell_step m8 xa0_2
        replace xa1_0 := cell_step m8 xa1_0
        replace xa1_1 := cell_step m8 xa1_1
        replace xa1_2 := cell_step m8 xa1_2
        replace xa1_3 := cell_step m8 xa1_3
        replace xa1_4 := cell_step m8 xa1_4
        replace xa1_5 := cell_step m8 xa1_5
        replace xa1_6 := cell_step m8 xa1_6
        replace xrw_0 := cell_step m8 xrw_0
        replace xrw_1 := cell_step m8 xrw_1
        replace xrw_2 := cell_step m8 xrw_2
        replace xax0_0 := cell_step m8 xax0_0
        replace xax0_1 := cell_step m8 xax0_1
        replace xax0_2 := cell_step m8 xax0_2
        replace xax1_0 := cell_step m8 xax1_0
        replace xax1_1 := cell_step m8 xax1_1
        replace xax1_2 := cell_step m8 xax1_2
        replace xax1_3 := cell_step m8 xax1_3
        replace xax1_4 := cell_step m8 xax1_4
        replace xax1_5 := cell_step m8 xax1_5
        replace xax1_6 := cell_step m8 xax1_6
        replace xrg_0 := cell_step m8 xrg_0
        replace xrg_1 := cell_step m8 xrg_1
        replace xrg_2 := cell_step m8 xrg_2
        replace qxa0 := Nat.lt_of_lt_of_le qxa0 m8.size
        replace qxa1 := Nat.lt_of_lt_of_le qxa1 m8.size
        replace qBrw := Nat.lt_of_lt_of_le qBrw m8.size
        replace qxax0 := Nat.lt_of_lt_of_le qxax0 m8.size
        replace qxax1 := Nat.lt_of_lt_of_le qxax1 m8.size
        replace qxrg := Nat.lt_of_lt_of_le qxrg m8.size
        have z8 : u7.heap.size ≤ u8.heap.size := m8.size
        replace b := m8.mono b.size |> b.trans
        clear m8 k8
        go_upto_region 16 with fail
        go_cut [63] (fun s wx => s = .bool false ∧ Below u8.heap.size u8 wx)
        case first =>
          go_region_with (first
            | (go_at_call 21; (with_reducible refine (Ht1.out hc1 _ (s1.below (by (repeat (first | (with_reducible exact Below.refl _ _) | (with_reducible refine below_setCell ?_ (by first | (simp; done) | (simp; omega) | omega)) | (with_reducible refine below_alloc _ ?_) | (with_reducible refine below_drewN ?_ _) | (with_reducible refine below_drew_step ?_) | (with_reducible assumption) | (with_reducible refine below_after (by assumption) ?_))))).rd1 (s1.below (by (repeat (first | (with_reducible exact Below.refl _ _) | (with_reducible refine below_setCell ?_ (by first | (simp; done) | (simp; omega) | omega)) | (with_reducible refine below_alloc _ ?_) | (with_reducible refine below_drewN ?_ _) | (with_reducible refine below_drew_step ?_) | (with_reducible assumption) | (with_reducible refine below_after (by assumption) ?_))))).rd2).mono ?_); rintro e x1 ⟨tt1, vv1, tt2, vv2, rfl, o1, k⟩; have hx1 := bcell k; have m1 : Below u8.heap.size u8 x1 := below_after k (by (repeat (first | (with_reducible exact Below.refl _ _) | (with_reducible refine below_setCell ?_ (by first | (simp; done) | (simp; omega) | omega)) | (with_reducible refine below_alloc _ ?_) | (with_reducible refine below_drewN ?_ _) | (with_reducible refine below_drew_step ?_) | (with_reducible assumption) | (with_reducible refine below_after (by assumption) ?_)))); have r1 := o1.rd1; have r1' := o1.rd2; have g0 := cell_step m1 xax1_0; have g1 := cell_step m1 xax1_1; have g2 := cell_step m1 xax1_2; have g3 := cell_step m1 xax1_3; have g4 := cell_step m1 xax1_4; have g5 := cell_step m1 xax1_5; have g6 := cell_step m1 xax1_6; clear o1 k)
            | (go_at_call 23; refine (He1.out hc1 _ _ _ _ _ (ax1.below (by (repeat (first | (with_reducible exact Below.refl _ _) | (with_reducible refine below_setCell ?_ (by first | (simp; done) | (simp; omega) | omega)) | (with_reducible refine below_alloc _ ?_) | (with_reducible refine below_drewN ?_ _) | (with_reducible refine below_drew_step ?_) | (with_reducible assumption) | (with_reducible refine below_after (by assumption) ?_))))).rd1 (ax1.below (by (repeat (first | (with_reducible exact Below.refl _ _) | (with_reducible refine below_setCell ?_ (by first | (simp; done) | (simp; omega) | omega)) | (with_reducible refine below_alloc _ ?_) | (with_reducible refine below_drewN ?_ _) | (with_reducible refine below_drew_step ?_) | (with_reducible assumption) | (with_reducible refine below_after (by assumption) ?_))))).rd2 (r1.below (by (repeat (first | (with_reducible exact Below.refl _ _) | (with_reducible refine below_setCell ?_ (by first | (simp; done) | (simp; omega) | omega)) | (with_reducible refine below_alloc _ ?_) | (with_reducible refine below_drewN ?_ _) | (with_reducible refine below_drew_step ?_) | (with_reducible assumption) | (with_reducible refine below_after (by assumption) ?_))))) (r1'.below (by (repeat (first | (with_reducible exact Below.refl _ _) | (with_reducible refine below_setCell ?_ (by first | (simp; done) | (simp; omega) | omega)) | (with_reducible refine below_alloc _ ?_) | (with_reducible refine below_drewN ?_ _) | (with_reducible refine below_drew_step ?_) | (with_reducible assumption) | (with_reducible refine below_after (by assumption) ?_)))))).mono ?_; rintro e x3 ⟨rfl, k⟩; replace m1 := below_after k (show Below u8.heap.size u8 _ from by (repeat (first | (with_reducible exact Below.refl _ _) | (with_reducible refine below_setCell ?_ (by first | (simp; done) | (simp; omega) | omega)) | (with_reducible refine below_alloc _ ?_) | (with_reducible refine below_drewN ?_ _) | (with_reducible refine below_drew_step ?_) | (with_reducible assumption) | (with_reducible refine below_after (by assumption) ?_)))); clear k))
          all_goals (go_wp2_with fail; go_meet; exact ⟨rfl, by (repeat (first | (with_reducible exact Below.refl _ _) | (with_reducible refine below_setCell ?_ (by first | (simp; done) | (simp; omega) | omega)) | (with_reducible refine below_alloc _ ?_) | (with_reducible refine below_drewN ?_ _) | (with_reducible refine below_drew_step ?_) | (with_reducible assumption) | (with_reducible refine below_after (by assumption) ?_)))⟩)
        case rest =>
          obtain ⟨rfl, k9⟩ := hcut
          obtain ⟨u9, rfl⟩ : ∃ u9 : World, u9 = wc := ⟨_, rfl⟩
          have m9 : Below u8.heap.size u8 u9 := below_after k9 (by (repeat (first | (with_reducible exact Below.refl _ _) | (with_reducible refine below_setCell ?_ (by first | (simp; done) | (simp; omega) | omega)) | (with_reducible refine below_alloc _ ?_) | (with_reducible refine below_drewN ?_ _) | (with_reducible assumption) | (with_reducible refine below_after (by assumption) ?_))))
          replace s0 := s0.below m9
          replace s1 := s1.below m9
          replace rw := rw.below m9
          replace ax0 := ax0.below m9
          replace ax1 := ax1.below m9
          replace rg := rg.below m9
          replace xa0_0 := cell_step m9 xa0_0
          replace xa0_1 := cell_step m9 xa0_1
          replace xa0_2 := cell_step m9 xa0_2
          replace xa1_0 := cell_step m9 xa1_0
          replace xa1_1 := cell_step m9 xa1_1
          replace xa1_2 := cell_step m9 xa1_2
          replace xa1_3 := cell_step m9 xa1_3
          replace xa1_4 := cell_step m9 xa1_4
          replace xa1_5 := cell_step m9 xa1_5
          replace xa1_6 := cell_step m9 xa1_6
          replace xrw_0 := cell_step m9 xrw_0
          replace xrw_1 := cell_step m9 xrw_1
          replace xrw_2 := cell_step m9 xrw_2
          replace xax0_0 := cell_step m9 xax0_0
          replace xax0_1 := cell_step m9 xax0_1
          replace xax0_2 := cell_step m9 xax0_2
          replace xax1_0 := cell_step m9 xax1_0
          replace xax1_1 := cell_step m9 xax1_1
          replace xax1_2 := cell_step m9 xax1_2
          replace xax1_3 := cell_step m9 xax1_3
          replace xax1_4 := cell_step m9 xax1_4
          replace xax1_5 := cell_step m9 xax1_5
          replace xax1_6 := cell_step m9 xax1_6
          replace xrg_0 := cell_step m9 xrg_0
          replace xrg_1 := cell_step m9 xrg_1
          replace xrg_2 := cell_step m9 xrg_2
          replace qxa0 := Nat.lt_of_lt_of_le qxa0 m9.size
          replace qxa1 := Nat.lt_of_lt_of_le qxa1 m9.size
          replace qBrw := Nat.lt_of_lt_of_le qBrw m9.size
          replace qxax0 := Nat.lt_of_lt_of_le qxax0 m9.size
          replace qxax1 := Nat.lt_of_lt_of_le qxax1 m9.size
          replace qxrg := Nat.lt_of_lt_of_le qxrg m9.size
          have z9 : u8.heap.size ≤ u9.heap.size := m9.size
          replace b := m9.mono b.size |> b.trans
          clear m9 k9
          go_wp2_with fail
          refine (Hk0.out 1 (by omega) (by omega) _ _ _ _ (ax0.below (by (repeat (first | (with_reducible exact Below.refl _ _) | (with_reducible refine below_setCell ?_ (by first | (simp; done) | (simp; omega) | omega)) | (with_reducible refine below_alloc _ ?_) | (with_reducible refine below_drewN ?_ _) | (with_reducible assumption) | (with_reducible refine below_after (by assumption) ?_)))))).mono ?_
          rintro e u10 ⟨rfl, hhax0, t10⟩
          replace s0 := (s0.below (by (repeat (first | (with_reducible exact Below.refl _ _) | (with_reducible refine below_setCell ?_ (by first | (simp; done) | (simp; omega) | omega)) | (with_reducible refine below_alloc _ ?_) | (with_reducible refine below_drewN ?_ _) | (with_reducible assumption) | (with_reducible refine below_after (by assumption) ?_))))).turn t10 (by omega)
          replace s1 := (s1.below (by (repeat (first | (with_reducible exact Below.refl _ _) | (with_reducible refine below_setCell ?_ (by first | (simp; done) | (simp; omega) | omega)) | (with_reducible refine below_alloc _ ?_) | (with_reducible refine below_drewN ?_ _) | (with_reducible assumption) | (with_reducible refine below_after (by assumption) ?_))))).turn t10 (by omega)
          replace rw := (rw.below (by (repeat (first | (with_reducible exact Below.refl _ _) | (with_reducible refine below_setCell ?_ (by first | (simp; done) | (simp; omega) | omega)) | (with_reducible refine below_alloc _ ?_) | (with_reducible refine below_drewN ?_ _) | (with_reducible assumption) | (with_reducible refine below_after (by assumption) ?_))))).turn t10 (by omega)
          replace ax1 := (ax1.below (by (repeat (first | (with_reducible exact Below.refl _ _) | (with_reducible refine below_setCell ?_ (by first | (simp; done) | (simp; omega) | omega)) | (with_reducible refine below_alloc _ ?_) | (with_reducible refine below_drewN ?_ _) | (with_reducible assumption) | (with_reducible refine below_after (by assumption) ?_))))).turn t10 (by omega)
          replace rg := (rg.below (by (repeat (first | (with_reducible exact Below.refl _ _) | (with_reducible refine below_setCell ?_ (by first | (simp; done) | (simp; omega) | omega)) | (with_reducible refine below_alloc _ ?_) | (with_reducible refine below_drewN ?_ _) | (with_reducible assumption) | (with_reducible refine below_after (by assumption) ?_))))).turn t10 (by omega)
          replace xa0_0 := t10.cell (cell_step (by (repeat (first | (with_reducible exact Below.refl _ _) | (with_reducible refine below_setCell ?_ (by first | (simp; done) | (simp; omega) | omega)) | (with_reducible refine below_alloc _ ?_) | (with_reducible refine below_drewN ?_ _) | (with_reducible assumption) | (with_reducible refine below_after (by assumption) ?_)))) xa0_0) (by omega)
          replace xa0_1 := t10.cell (cell_step (by (repeat (first | (with_reducible exact Below.refl _ _) | (with_reducible refine below_setCell ?_ (by first | (simp; done) | (simp; omega) | omega)) | (with_reducible refine below_alloc _ ?_) | (with_reducible refine below_drewN ?_ _) | (with_reducible assumption) | (with_reducible refine below_after (by assumption) ?_)))) xa0_1) (by omega)
          replace xa0_2 := t10.cell (cell_step (by (repeat (first | (with_reducible exact Below.refl _ _) | (with_reducible refine below_setCell ?_ (by first | (simp; done) | (simp; omega) | omega)) | (with_reducible refine below_alloc _ ?_) | (with_reducible refine below_drewN ?_ _) | (with_reducible assumption) | (with_reducible refine below_after (by assumption) ?_)))) xa0_2) (by omega)
          replace xa1_0 := t10.cell (cell_step (by (repeat (first | (with_reducible exact Below.refl _ _) | (with_reducible refine below_setCell ?_ (by first | (simp; done) | (simp; omega) | omega)) | (with_reducible refine below_alloc _ ?_) | (with_reducible refine below_drewN ?_ _) | (with_reducible assumption) | (with_reducible refine below_after (by assumption) ?_)))) xa1_0) (by omega)
          replace xa1_1 := t10.cell (cell_step (by (repeat (first | (with_reducible exact Below.refl _ _) | (with_reducible refine below_setCell ?_ (by first | (simp; done) | (simp; omega) | omega)) | (with_reducible refine below_alloc _ ?_) | (with_reducible refine below_drewN ?_ _) | (with_reducible assumption) | (with_reducible refine below_after (by assumption) ?_)))) xa1_1) (by omega)
          replace xa1_2 := t10.cell (cell_step (by (repeat (first | (with_reducible exact Below.refl _ _) | (with_reducible refine below_setCell ?_ (by first | (simp; done) | (simp; omega) | omega)) | (with_reducible refine below_alloc _ ?_) | (with_reducible refine below_drewN ?_ _) | (with_reducible assumption) | (with_reducible refine below_after (by assumption) ?_)))) xa1_2) (by omega)
          replace xa1_3 := t10.cell (cell_step (by (repeat (first | (with_reducible exact Below.refl _ _) | (with_reducible refine below_setCell ?_ (by first | (simp; done) | (simp; omega) | omega)) | (with_reducible refine below_alloc _ ?_) | (with_reducible refine below_drewN ?_ _) | (with_reducible assumption) | (with_reducible refine below_after (by assumption) ?_)))) xa1_3) (by omega)
          replace xa1_4 := t10.cell (cell_step (by (repeat (first | (with_reducible exact Below.refl _ _) | (with_reducible refine below_setCell ?_ (by first | (simp; done) | (simp; omega) | omega)) | (with_reducible refine below_alloc _ ?_) | (with_reducible refine below_drewN ?_ _) | (with_reducible assumption) | (with_reducible refine below_after (by assumption) ?_)))) xa1_4) (by omega)
          replace xa1_5 := t10.cell (cell_step (by (repeat (first | (with_reducible exact Below.refl _ _) | (with_reducible refine below_setCell ?_ (by first | (simp; done) | (simp; omega) | omega)) | (with_reducible refine below_alloc _ ?_) | (with_reducible refine below_drewN ?_ _) | (with_reducible assumption) | (with_reducible refine below_after (by assumption) ?_)))) xa1_5) (by omega)
          replace xa1_6 := t10.cell (cell_step (by (repeat (first | (with_reducible exact Below.refl _ _) | (with_reducible refine below_setCell ?_ (by first | (simp; done) | (simp; omega) | omega)) | (with_reducible refine below_alloc _ ?_) | (with_reducible refine below_drewN ?_ _) | (with_reducible assumption) | (with_reducible refine below_after (by assumption) ?_)))) xa1_6) (by omega)
          replace xrw_0 := t10.cell (cell_step (by (repeat (first | (with_reducible exact Below.refl _ _) | (with_reducible refine below_setCell ?_ (by first | (simp; done) | (simp; omega) | omega)) | (with_reducible refine below_alloc _ ?_) | (with_reducible refine below_drewN ?_ _) | (with_reducible assumption) | (with_reducible refine below_after (by assumption) ?_)))) xrw_0) (by omega)
          replace xrw_1 := t10.cell (cell_step (by (repeat (first | (with_reducible exact Below.refl _ _) | (with_reducible refine below_setCell ?_ (by first | (simp; done) | (simp; omega) | omega)) | (with_reducible refine below_alloc _ ?_) | (with_reducible refine below_drewN ?_ _) | (with_reducible assumption) | (with_reducible refine below_after (by assumption) ?_)))) xrw_1) (by omega)
          replace xrw_2 := t10.cell (cell_step (by (repeat (first | (with_reducible exact Below.refl _ _) | (with_reducible refine below_setCell ?_ (by first | (simp; done) | (simp; omega) | omega)) | (with_reducible refine below_alloc _ ?_) | (with_reducible refine below_drewN ?_ _) | (with_reducible assumption) | (with_reducible refine below_after (by assumption) ?_)))) xrw_2) (by omega)
          replace xax0_0 := t10.cell (cell_step (by (repeat (first | (with_reducible exact Below.refl _ _) | (with_reducible refine below_setCell ?_ (by first | (simp; done) | (simp; omega) | omega)) | (with_reducible refine below_alloc _ ?_) | (with_reducible refine below_drewN ?_ _) | (with_reducible assumption) | (with_reducible refine below_after (by assumption) ?_)))) xax0_0) (by omega)
          replace xax0_1 := t10.cell (cell_step (by (repeat (first | (with_reducible exact Below.refl _ _) | (with_reducible refine below_setCell ?_ (by first | (simp; done) | (simp; omega) | omega)) | (with_reducible refine below_alloc _ ?_) | (with_reducible refine below_drewN ?_ _) | (with_reducible assumption) | (with_reducible refine below_after (by assumption) ?_)))) xax0_1) (by omega)
          replace xax0_2 := t10.cell (cell_step (by (repeat (first | (with_reducible exact Below.refl _ _) | (with_reducible refine below_setCell ?_ (by first | (simp; done) | (simp; omega) | omega)) | (with_reducible refine below_alloc _ ?_) | (with_reducible refine below_drewN ?_ _) | (with_reducible assumption) | (with_reducible refine below_after (by assumption) ?_)))) xax0_2) (by omega)
          replace xax1_0 := t10.cell (cell_step (by (repeat (first | (with_reducible exact Below.refl _ _) | (with_reducible refine below_setCell ?_ (by first | (simp; done) | (simp; omega) | omega)) | (with_reducible refine below_alloc _ ?_) | (with_reducible refine below_drewN ?_ _) | (with_reducible assumption) | (with_reducible refine below_after (by assumption) ?_)))) xax1_0) (by omega)
          replace xax1_1 := t10.cell (cell_step (by (repeat (first | (with_reducible exact Below.refl _ _) | (with_reducible refine below_setCell ?_ (by first | (simp; done) | (simp; omega) | omega)) | (with_reducible refine below_alloc _ ?_) | (with_reducible refine below_drewN ?_ _) | (with_reducible assumption) | (with_reducible refine below_after (by assumption) ?_)))) xax1_1) (by omega)
          replace xax1_2 := t10.cell (cell_step (by (repeat (first | (with_reducible exact Below.refl _ _) | (with_reducible refine below_setCell ?_ (by first | (simp; done) | (simp; omega) | omega)) | (with_reducible refine below_alloc _ ?_) | (with_reducible refine below_drewN ?_ _) | (with_reducible assumption) | (with_reducible refine below_after (by assumption) ?_)))) xax1_2) (by omega)
          replace xax1_3 := t10.cell (cell_step (by (repeat (first | (with_reducible exact Below.refl _ _) | (with_reducible refine below_setCell ?_ (by first | (simp; done) | (simp; omega) | omega)) | (with_reducible refine below_alloc _ ?_) | (with_reducible refine below_drewN ?_ _) | (with_reducible assumption) | (with_reducible refine below_after (by assumption) ?_)))) xax1_3) (by omega)
          replace xax1_4 := t10.cell (cell_step (by (repeat (first | (with_reducible exact Below.refl _ _) | (with_reducible refine below_setCell ?_ (by first | (simp; done) | (simp; omega) | omega)) | (with_reducible refine below_alloc _ ?_) | (with_reducible refine below_drewN ?_ _) | (with_reducible assumption) | (with_reducible refine below_after (by assumption) ?_)))) xax1_4) (by omega)
          replace xax1_5 := t10.cell (cell_step (by (repeat (first | (with_reducible exact Below.refl _ _) | (with_reducible refine below_setCell ?_ (by first | (simp; done) | (simp; omega) | omega)) | (with_reducible refine below_alloc _ ?_) | (with_reducible refine below_drewN ?_ _) | (with_reducible assumption) | (with_reducible refine below_after (by assumption) ?_)))) xax1_5) (by omega)
          replace xax1_6 := t10.cell (cell_step (by (repeat (first | (with_reducible exact Below.refl _ _) | (with_reducible refine below_setCell ?_ (by first | (simp; done) | (simp; omega) | omega)) | (with_reducible refine below_alloc _ ?_) | (with_reducible refine below_drewN ?_ _) | (with_reducible assumption) | (with_reducible refine below_after (by assumption) ?_)))) xax1_6) (by omega)
          replace xrg_0 := t10.cell (cell_step (by (repeat (first | (with_reducible exact Below.refl _ _) | (with_reducible refine below_setCell ?_ (by first | (simp; done) | (simp; omega) | omega)) | (with_reducible refine below_alloc _ ?_) | (with_reducible refine below_drewN ?_ _) | (with_reducible assumption) | (with_reducible refine below_after (by assumption) ?_)))) xrg_0) (by omega)
          replace xrg_1 := t10.cell (cell_step (by (repeat (first | (with_reducible exact Below.refl _ _) | (with_reducible refine below_setCell ?_ (by first | (simp; done) | (simp; omega) | omega)) | (with_reducible refine below_alloc _ ?_) | (with_reducible refine below_drewN ?_ _) | (with_reducible assumption) | (with_reducible refine below_after (by assumption) ?_)))) xrg_1) (by omega)
          replace xrg_2 := t10.cell (cell_step (by (repeat (first | (with_reducible exact Below.refl _ _) | (with_reducible refine below_setCell ?_ (by first | (simp; done) | (simp; omega) | omega)) | (with_reducible refine below_alloc _ ?_) | (with_reducible refine below_drewN ?_ _) | (with_reducible assumption) | (with_reducible refine below_after (by assumption) ?_)))) xrg_2) (by omega)
          replace b := Turn.below t10 (by omega) (below_after (by (repeat (first | (with_reducible exact Below.refl _ _) | (with_reducible refine below_setCell ?_ (by first | (simp; done) | (simp; omega) | omega)) | (with_reducible refine below_alloc _ ?_) | (with_reducible refine below_drewN ?_ _) | (with_reducible assumption) | (with_reducible refine below_after (by assumption) ?_)))) b)
          have z10 : u9.heap.size ≤ u10.heap.size := Nat.le_trans (Below.size (B := u9.heap.size) (w := u9) (by (repeat (first | (with_reducible exact Below.refl _ _) | (with_reducible refine below_setCell ?_ (by first | (simp; done) | (simp; omega) | omega)) | (with_reducible refine below_alloc _ ?_) | (with_reducible refine below_drewN ?_ _) | (with_reducible assumption) | (with_reducible refine below_after (by assumption) ?_))))) t10.size
          replace qxa0 := Nat.lt_of_lt_of_le qxa0 z10
          replace qxa1 := Nat.lt_of_lt_of_le qxa1 z10
          replace qBrw := Nat.lt_of_lt_of_le qBrw z10
          replace qxax0 := Nat.lt_of_lt_of_le qxax0 z10
          replace qxax1 := Nat.lt_of_lt_of_le qxax1 z10
          replace qxrg := Nat.lt_of_lt_of_le qxrg z10
          clear t10 ax0 hhax0
          obtain ⟨K0, hK0⟩ : ∃ K0 : Nat, 1 + l0 = K0 := ⟨_, rfl⟩
          rw [hK0]
          have hK0n : (0 : Int) ≤ (K0 : Int) := by omega
          have hK0u : K0 ≤ 6291464 := by omega
          have hK0p : 0 < K0 := by omega
          clear hK0
          go_wp2_with fail
          refine (Hk1.out K0 (by omega) (by omega) _ _ _ _ _ (ax1.below (by (repeat (first | (with_reducible exact Below.refl _ _) | (with_reducible refine below_setCell ?_ (by first | (simp; done) | (simp; omega) | omega)) | (with_reducible refine below_alloc _ ?_) | (with_reducible refine below_drewN ?_ _) | (with_reducible assumption) | (with_reducible refine below_after (by assumption) ?_)))))).mono ?_
          rintro e u11 ⟨rfl, t11⟩
          replace s0 := (s0.below (by (repeat (first | (with_reducible exact Below.refl _ _) | (with_reducible refine below_setCell ?_ (by first | (simp; done) | (simp; omega) | omega)) | (with_reducible refine below_alloc _ ?_) | (with_reducible refine below_drewN ?_ _) | (with_reducible assumption) | (with_reducible refine below_after (by assumption) ?_))))).turn t11 (by omega)
          replace s1 := (s1.below (by (repeat (first | (with_reducible exact Below.refl _ _) | (with_reducible refine below_setCell ?_ (by first | (simp; done) | (simp; omega) | omega)) | (with_reducible refine below_alloc _ ?_) | (with_reducible refine below_drewN ?_ _) | (with_reducible assumption) | (with_reducible refine below_after (by assumption) ?_))))).turn t11 (by omega)
          replace rw := (rw.below (by (repeat (first | (with_reducible exact Below.refl _ _) | (with_reducible refine below_setCell ?_ (by first | (simp; done) | (simp; omega) | omega)) | (with_reducible refine below_alloc _ ?_) | (with_reducible refine below_drewN ?_ _) | (with_reducible assumption) | (with_reducible refine below_after (by assumption) ?_))))).turn t11 (by omega)
          replace rg := (rg.below (by (repeat (first | (with_reducible exact Below.refl _ _) | (with_reducible refine below_setCell ?_ (by first | (simp; done) | (simp; omega) | omega)) | (with_reducible refine below_alloc _ ?_) | (with_reducible refine below_drewN ?_ _) | (with_reducible assumption) | (with_reducible refine below_after (by assumption) ?_))))).turn t11 (by omega)
          replace xa0_0 := t11.cell (cell_step (by (repeat (first | (with_reducible exact Below.refl _ _) | (with_reducible refine below_setCell ?_ (by first | (simp; done) | (simp; omega) | omega)) | (with_reducible refine below_alloc _ ?_) | (with_reducible refine below_drewN ?_ _) | (with_reducible assumption) | (with_reducible refine below_after (by assumption) ?_)))) xa0_0) (by omega)
          replace xa0_1 := t11.cell (cell_step (by (repeat (first | (with_reducible exact Below.refl _ _) | (with_reducible refine below_setCell ?_ (by first | (simp; done) | (simp; omega) | omega)) | (with_reducible refine below_alloc _ ?_) | (with_reducible refine below_drewN ?_ _) | (with_reducible assumption) | (with_reducible refine below_after (by assumption) ?_)))) xa0_1) (by omega)
          replace xa0_2 := t11.cell (cell_step (by (repeat (first | (with_reducible exact Below.refl _ _) | (with_reducible refine below_setCell ?_ (by first | (simp; done) | (simp; omega) | omega)) | (with_reducible refine below_alloc _ ?_) | (with_reducible refine below_drewN ?_ _) | (with_reducible assumption) | (with_reducible refine below_after (by assumption) ?_)))) xa0_2) (by omega)
          replace xa1_0 := t11.cell (cell_step (by (repeat (first | (with_reducible exact Below.refl _ _) | (with_reducible refine below_setCell ?_ (by first | (simp; done) | (simp; omega) | omega)) | (with_reducible refine below_alloc _ ?_) | (with_reducible refine below_drewN ?_ _) | (with_reducible assumption) | (with_reducible refine below_after (by assumption) ?_)))) xa1_0) (by omega)
          replace xa1_1 := t11.cell (cell_step (by (repeat (first | (with_reducible exact Below.refl _ _) | (with_reducible refine below_setCell ?_ (by first | (simp; done) | (simp; omega) | omega)) | (with_reducible refine below_alloc _ ?_) | (with_reducible refine below_drewN ?_ _) | (with_reducible assumption) | (with_reducible refine below_after (by assumption) ?_)))) xa1_1) (by omega)
          replace xa1_2 := t11.cell (cell_step (by (repeat (first | (with_reducible exact Below.refl _ _) | (with_reducible refine below_setCell ?_ (by first | (simp; done) | (simp; omega) | omega)) | (with_reducible refine below_alloc _ ?_) | (with_reducible refine below_drewN ?_ _) | (with_reducible assumption) | (with_reducible refine below_after (by assumption) ?_)))) xa1_2) (by omega)
          replace xa1_3 := t11.cell (cell_step (by (repeat (first | (with_reducible exact Below.refl _ _) | (with_reducible refine below_setCell ?_ (by first | (simp; done) | (simp; omega) | omega)) | (with_reducible refine below_alloc _ ?_) | (with_reducible refine below_drewN ?_ _) | (with_reducible assumption) | (with_reducible refine below_after (by assumption) ?_)))) xa1_3) (by omega)
          replace xa1_4 := t11.cell (cell_step (by (repeat (first | (with_reducible exact Below.refl _ _) | (with_reducible refine below_setCell ?_ (by first | (simp; done) | (simp; omega) | omega)) | (with_reducible refine below_alloc _ ?_) | (with_reducible refine below_drewN ?_ _) | (with_reducible assumption) | (with_reducible refine below_after (by assumption) ?_)))) xa1_4) (by omega)
          replace xa1_5 := t11.cell (cell_step (by (repeat (first | (with_reducible exact Below.refl _ _) | (with_reducible refine below_setCell ?_ (by first | (simp; done) | (simp; omega) | omega)) | (with_reducible refine below_alloc _ ?_) | (with_reducible refine below_drewN ?_ _) | (with_reducible assumption) | (with_reducible refine below_after (by assumption) ?_)))) xa1_5) (by omega)
          replace xa1_6 := t11.cell (cell_step (by (repeat (first | (with_reducible exact Below.refl _ _) | (with_reducible refine below_setCell ?_ (by first | (simp; done) | (simp; omega) | omega)) | (with_reducible refine below_alloc _ ?_) | (with_reducible refine below_drewN ?_ _) | (with_reducible assumption) | (with_reducible refine below_after (by assumption) ?_)))) xa1_6) (by omega)
          replace xrw_0 := t11.cell (cell_step (by (repeat (first | (with_reducible exact Below.refl _ _) | (with_reducible refine below_setCell ?_ (by first | (simp; done) | (simp; omega) | omega)) | (with_reducible refine below_alloc _ ?_) | (with_reducible refine below_drewN ?_ _) | (with_reducible assumption) | (with_reducible refine below_after (by assumption) ?_)))) xrw_0) (by omega)
          replace xrw_1 := t11.cell (cell_step (by (repeat (first | (with_reducible exact Below.refl _ _) | (with_reducible refine below_setCell ?_ (by first | (simp; done) | (simp; omega) | omega)) | (with_reducible refine below_alloc _ ?_) | (with_reducible refine below_drewN ?_ _) | (with_reducible assumption) | (with_reducible refine below_after (by assumption) ?_)))) xrw_1) (by omega)
          replace xrw_2 := t11.cell (cell_step (by (repeat (first | (with_reducible exact Below.refl _ _) | (with_reducible refine below_setCell ?_ (by first | (simp; done) | (simp; omega) | omega)) | (with_reducible refine below_alloc _ ?_) | (with_reducible refine below_drewN ?_ _) | (with_reducible assumption) | (with_reducible refine below_after (by assumption) ?_)))) xrw_2) (by omega)
          replace xax0_0 := t11.cell (cell_step (by (repeat (first | (with_reducible exact Below.refl _ _) | (with_reducible refine below_setCell ?_ (by first | (simp; done) | (simp; omega) | omega)) | (with_reducible refine below_alloc _ ?_) | (with_reducible refine below_drewN ?_ _) | (with_reducible assumption) | (with_reducible refine below_after (by assumption) ?_)))) xax0_0) (by omega)
          replace xax0_1 := t11.cell (cell_step (by (repeat (first | (with_reducible exact Below.refl _ _) | (with_reducible refine below_setCell ?_ (by first | (simp; done) | (simp; omega) | omega)) | (with_reducible refine below_alloc _ ?_) | (with_reducible refine below_drewN ?_ _) | (with_reducible assumption) | (with_reducible refine below_after (by assumption) ?_)))) xax0_1) (by omega)
          replace xax0_2 := t11.cell (cell_step (by (repeat (first | (with_reducible exact Below.refl _ _) | (with_reducible refine below_setCell ?_ (by first | (simp; done) | (simp; omega) | omega)) | (with_reducible refine below_alloc _ ?_) | (with_reducible refine below_drewN ?_ _) | (with_reducible assumption) | (with_reducible refine below_after (by assumption) ?_)))) xax0_2) (by omega)
          replace xax1_0 := t11.cell (cell_step (by (repeat (first | (with_reducible exact Below.refl _ _) | (with_reducible refine below_setCell ?_ (by first | (simp; done) | (simp; omega) | omega)) | (with_reducible refine below_alloc _ ?_) | (with_reducible refine below_drewN ?_ _) | (with_reducible assumption) | (with_reducible refine below_after (by assumption) ?_)))) xax1_0) (by omega)
          replace xax1_1 := t11.cell (cell_step (by (repeat (first | (with_reducible exact Below.refl _ _) | (with_reducible refine below_setCell ?_ (by first | (simp; done) | (simp; omega) | omega)) | (with_reducible refine below_alloc _ ?_) | (with_reducible refine below_drewN ?_ _) | (with_reducible assumption) | (with_reducible refine below_after (by assumption) ?_)))) xax1_1) (by omega)
          replace xax1_2 := t11.cell (cell_step (by (repeat (first | (with_reducible exact Below.refl _ _) | (with_reducible refine below_setCell ?_ (by first | (simp; done) | (simp; omega) | omega)) | (with_reducible refine below_alloc _ ?_) | (with_reducible refine below_drewN ?_ _) | (with_reducible assumption) | (with_reducible refine below_after (by assumption) ?_)))) xax1_2) (by omega)
          replace xax1_3 := t11.cell (cell_step (by (repeat (first | (with_reducible exact Below.refl _ _) | (with_reducible refine below_setCell ?_ (by first | (simp; done) | (simp; omega) | omega)) | (with_reducible refine below_alloc _ ?_) | (with_reducible refine below_drewN ?_ _) | (with_reducible assumption) | (with_reducible refine below_after (by assumption) ?_)))) xax1_3) (by omega)
          replace xax1_4 := t11.cell (cell_step (by (repeat (first | (with_reducible exact Below.refl _ _) | (with_reducible refine below_setCell ?_ (by first | (simp; done) | (simp; omega) | omega)) | (with_reducible refine below_alloc _ ?_) | (with_reducible refine below_drewN ?_ _) | (with_reducible assumption) | (with_reducible refine below_after (by assumption) ?_)))) xax1_4) (by omega)
          replace xax1_5 := t11.cell (cell_step (by (repeat (first | (with_reducible exact Below.refl _ _) | (with_reducible refine below_setCell ?_ (by first | (simp; done) | (simp; omega) | omega)) | (with_reducible refine below_alloc _ ?_) | (with_reducible refine below_drewN ?_ _) | (with_reducible assumption) | (with_reducible refine below_after (by assumption) ?_)))) xax1_5) (by omega)
          replace xax1_6 := t11.cell (cell_step (by (repeat (first | (with_reducible exact Below.refl _ _) | (with_reducible refine below_setCell ?_ (by first | (simp; done) | (simp; omega) | omega)) | (with_reducible refine below_alloc _ ?_) | (with_reducible refine below_drewN ?_ _) | (with_reducible assumption) | (with_reducible refine below_after (by assumption) ?_)))) xax1_6) (by omega)
          replace xrg_0 := t11.cell (cell_step (by (repeat (first | (with_reducible exact Below.refl _ _) | (with_reducible refine below_setCell ?_ (by first | (simp; done) | (simp; omega) | omega)) | (with_reducible refine below_alloc _ ?_) | (with_reducible refine below_drewN ?_ _) | (with_reducible assumption) | (with_reducible refine below_after (by assumption) ?_)))) xrg_0) (by omega)
          replace xrg_1 := t11.cell (cell_step (by (repeat (first | (with_reducible exact Below.refl _ _) | (with_reducible refine below_setCell ?_ (by first | (simp; done) | (simp; omega) | omega)) | (with_reducible refine below_alloc _ ?_) | (with_reducible refine below_drewN ?_ _) | (with_reducible assumption) | (with_reducible refine below_after (by assumption) ?_)))) xrg_1) (by omega)
          replace xrg_2 := t11.cell (cell_step (by (repeat (first | (with_reducible exact Below.refl _ _) | (with_reducible refine below_setCell ?_ (by first | (simp; done) | (simp; omega) | omega)) | (with_reducible refine below_alloc _ ?_) | (with_reducible refine below_drewN ?_ _) | (with_reducible assumption) | (with_reducible refine below_after (by assumption) ?_)))) xrg_2) (by omega)
          replace b := Turn.below t11 (by omega) (below_after (by (repeat (first | (with_reducible exact Below.refl _ _) | (with_reducible refine below_setCell ?_ (by first | (simp; done) | (simp; omega) | omega)) | (with_reducible refine below_alloc _ ?_) | (with_reducible refine below_drewN ?_ _) | (with_reducible assumption) | (with_reducible refine below_after (by assumption) ?_)))) b)
          have z11 : u10.heap.size ≤ u11.heap.size := Nat.le_trans (Below.size (B := u10.heap.size) (w := u10) (by (repeat (first | (with_reducible exact Below.refl _ _) | (with_reducible refine below_setCell ?_ (by first | (simp; done) | (simp; omega) | omega)) | (with_reducible refine below_alloc _ ?_) | (with_reducible refine below_drewN ?_ _) | (with_reducible assumption) | (with_reducible refine below_after (by assumption) ?_))))) t11.size
          replace qxa0 := Nat.lt_of_lt_of_le qxa0 z11
          replace qxa1 := Nat.lt_of_lt_of_le qxa1 z11
          replace qBrw := Nat.lt_of_lt_of_le qBrw z11
          replace qxax0 := Nat.lt_of_lt_of_le qxax0 z11
          replace qxax1 := Nat.lt_of_lt_of_le qxax1 z11
          replace qxrg := Nat.lt_of_lt_of_le qxrg z11
          clear t11 ax1
          obtain ⟨K1, hK1⟩ : ∃ K1 : Nat, K0 + l1 = K1 := ⟨_, rfl⟩
          rw [hK1]
          have hK1n : (0 : Int) ≤ (K1 : Int) := by omega
          have hK1u : K1 ≤ 12582920 := by omega
          have hK1p : 0 < K1 := by omega
          clear hK1
          go_wp2_with fail
          refine (HeR.out hcR _ _ _ (rg.below (by (repeat (first | (with_reducible exact Below.refl _ _) | (with_reducible refine below_setCell ?_ (by first | (simp; done) | (simp; omega) | omega)) | (with_reducible refine below_alloc _ ?_) | (with_reducible refine below_drewN ?_ _) | (with_reducible assumption) | (with_reducible refine below_after (by assumption) ?_))))).rd (rw.below (by (repeat (first | (with_reducible exact Below.refl _ _) | (with_reducible refine below_setCell ?_ (by first | (simp; done) | (simp; omega) | omega)) | (with_reducible refine below_alloc _ ?_) | (with_reducible refine below_drewN ?_ _) | (with_reducible assumption) | (with_reducible refine below_after (by assumption) ?_))))).rd).mono ?_
          rintro e u12 ⟨rfl, k12⟩
          have m12 : Below u11.heap.size u11 u12 := below_after k12 (by (repeat (first | (with_reducible exact Below.refl _ _) | (with_reducible refine below_setCell ?_ (by first | (simp; done) | (simp; omega) | omega)) | (with_reducible refine below_alloc _ ?_) | (with_reducible refine below_drewN ?_ _) | (with_reducible assumption) | (with_reducible refine below_after (by assumption) ?_))))
          replace s0 := s0.below m12
          replace s1 := s1.below m12
          replace rw := rw.below m12
          replace rg := rg.below m12
          replace xa0_0 := cell_step m12 xa0_0
          replace xa0_1 := cell_step m12 xa0_1
          replace xa0_2 := cell_step m12 xa0_2
          replace xa1_0 := cell_step m12 xa1_0
          replace xa1_1 := cell_step m12 xa1_1
          replace xa1_2 := cell_step m12 xa1_2
          replace xa1_3 := cell_step m12 xa1_3
          replace xa1_4 := cell_step m12 xa1_4
          replace xa1_5 := cell_step m12 xa1_5
          replace xa1_6 := cell_step m12 xa1_6
          replace xrw_0 := cell_step m12 xrw_0
          replace xrw_1 := cell_step m12 xrw_1
          replace xrw_2 := cell_step m12 xrw_2
          replace xax0_0 := cell_step m12 xax0_0
          replace xax0_1 := cell_step m12 xax0_1
          replace xax0_2 := cell_step m12 xax0_2
          replace xax1_0 := cell_step m12 xax1_0
          replace xax1_1 := cell_step m12 xax1_1
          replace xax1_2 := cell_step m12 xax1_2
          replace xax1_3 := cell_step m12 xax1_3
          replace xax1_4 := cell_step m12 xax1_4
          replace xax1_5 := cell_step m12 xax1_5
          replace xax1_6 := cell_step m12 xax1_6
          replace xrg_0 := cell_step m12 xrg_0
          replace xrg_1 := cell_step m12 xrg_1
          replace xrg_2 := cell_step m12 xrg_2
          replace qxa0 := Nat.lt_of_lt_of_le qxa0 m12.size
          replace qxa1 := Nat.lt_of_lt_of_le qxa1 m12.size
          replace qBrw := Nat.lt_of_lt_of_le qBrw m12.size
          replace qxax0 := Nat.lt_of_lt_of_le qxax0 m12.size
          replace qxax1 := Nat.lt_of_lt_of_le qxax1 m12.size
          replace qxrg := Nat.lt_of_lt_of_le qxrg m12.size
          have z12 : u11.heap.size ≤ u12.heap.size := m12.size
          replace b := m12.mono b.size |> b.trans
          clear m12 k12
          go_wp2_with fail
          refine (HkR.out (by omega) _ _ _ _ (rg.below (by (repeat (first | (with_reducible exact Below.refl _ _) | (with_reducible refine below_setCell ?_ (by first | (simp; done) | (simp; omega) | omega)) | (with_reducible refine below_alloc _ ?_) | (with_reducible refine below_drewN ?_ _) | (with_reducible assumption) | (with_reducible refine below_after (by assumption) ?_)))))).mono ?_
          rintro e u13 ⟨rfl, hhrg, t13⟩
          replace s0 := (s0.below (by (repeat (first | (with_reducible exact Below.refl _ _) | (with_reducible refine below_setCell ?_ (by first | (simp; done) | (simp; omega) | omega)) | (with_reducible refine below_alloc _ ?_) | (with_reducible refine below_drewN ?_ _) | (with_reducible assumption) | (with_reducible refine below_after (by assumption) ?_))))).turn t13 (by omega)
          replace s1 := (s1.below (by (repeat (first | (with_reducible exact Below.refl _ _) | (with_reducible refine below_setCell ?_ (by first | (simp; done) | (simp; omega) | omega)) | (with_reducible refine below_alloc _ ?_) | (with_reducible refine below_drewN ?_ _) | (with_reducible assumption) | (with_reducible refine below_after (by assumption) ?_))))).turn t13 (by omega)
          replace rw := (rw.below (by (repeat (first | (with_reducible exact Below.refl _ _) | (with_reducible refine below_setCell ?_ (by first | (simp; done) | (simp; omega) | omega)) | (with_reducible refine below_alloc _ ?_) | (with_reducible refine below_drewN ?_ _) | (with_reducible assumption) | (with_reducible refine below_after (by assumption) ?_))))).turn t13 (by omega)
          replace xa0_0 := t13.cell (cell_step (by (repeat (first | (with_reducible exact Below.refl _ _) | (with_reducible refine below_setCell ?_ (by first | (simp; done) | (simp; omega) | omega)) | (with_reducible refine below_alloc _ ?_) | (with_reducible refine below_drewN ?_ _) | (with_reducible assumption) | (with_reducible refine below_after (by assumption) ?_)))) xa0_0) (by omega)
          replace xa0_1 := t13.cell (cell_step (by (repeat (first | (with_reducible exact Below.refl _ _) | (with_reducible refine below_setCell ?_ (by first | (simp; done) | (simp; omega) | omega)) | (with_reducible refine below_alloc _ ?_) | (with_reducible refine below_drewN ?_ _) | (with_reducible assumption) | (with_reducible refine below_after (by assumption) ?_)))) xa0_1) (by omega)
          replace xa0_2 := t13.cell (cell_step (by (repeat (first | (with_reducible exact Below.refl _ _) | (with_reducible refine below_setCell ?_ (by first | (simp; done) | (simp; omega) | omega)) | (with_reducible refine below_alloc _ ?_) | (with_reducible refine below_drewN ?_ _) | (with_reducible assumption) | (with_reducible refine below_after (by assumption) ?_)))) xa0_2) (by omega)
          replace xa1_0 := t13.cell (cell_step (by (repeat (first | (with_reducible exact Below.refl _ _) | (with_reducible refine below_setCell ?_ (by first | (simp; done) | (simp; omega) | omega)) | (with_reducible refine below_alloc _ ?_) | (with_reducible refine below_drewN ?_ _) | (with_reducible assumption) | (with_reducible refine below_after (by assumption) ?_)))) xa1_0) (by omega)
          replace xa1_1 := t13.cell (cell_step (by (repeat (first | (with_reducible exact Below.refl _ _) | (with_reducible refine below_setCell ?_ (by first | (simp; done) | (simp; omega) | omega)) | (with_reducible refine below_alloc _ ?_) | (with_reducible refine below_drewN ?_ _) | (with_reducible assumption) | (with_reducible refine below_after (by assumption) ?_)))) xa1_1) (by omega)
          replace xa1_2 := t13.cell (cell_step (by (repeat (first | (with_reducible exact Below.refl _ _) | (with_reducible refine below_setCell ?_ (by first | (simp; done) | (simp; omega) | omega)) | (with_reducible refine below_alloc _ ?_) | (with_reducible refine below_drewN ?_ _) | (with_reducible assumption) | (with_reducible refine below_after (by assumption) ?_)))) xa1_2) (by omega)
          replace xa1_3 := t13.cell (cell_step (by (repeat (first | (with_reducible exact Below.refl _ _) | (with_reducible refine below_setCell ?_ (by first | (simp; done) | (simp; omega) | omega)) | (with_reducible refine below_alloc _ ?_) | (with_reducible refine below_drewN ?_ _) | (with_reducible assumption) | (with_reducible refine below_after (by assumption) ?_)))) xa1_3) (by omega)
          replace xa1_4 := t13.cell (cell_step (by (repeat (first | (with_reducible exact Below.refl _ _) | (with_reducible refine below_setCell ?_ (by first | (simp; done) | (simp; omega) | omega)) | (with_reducible refine below_alloc _ ?_) | (with_reducible refine below_drewN ?_ _) | (with_reducible assumption) | (with_reducible refine below_after (by assumption) ?_)))) xa1_4) (by omega)
          replace xa1_5 := t13.cell (cell_step (by (repeat (first | (with_reducible exact Below.refl _ _) | (with_reducible refine below_setCell ?_ (by first | (simp; done) | (simp; omega) | omega)) | (with_reducible refine below_alloc _ ?_) | (with_reducible refine below_drewN ?_ _) | (with_reducible assumption) | (with_reducible refine below_after (by assumption) ?_)))) xa1_5) (by omega)
          replace xa1_6 := t13.cell (cell_step (by (repeat (first | (with_reducible exact Below.refl _ _) | (with_reducible refine below_setCell ?_ (by first | (simp; done) | (simp; omega) | omega)) | (with_reducible refine below_alloc _ ?_) | (with_reducible refine below_drewN ?_ _) | (with_reducible assumption) | (with_reducible refine below_after (by assumption) ?_)))) xa1_6) (by omega)
          replace xrw_0 := t13.cell (cell_step (by (repeat (first | (with_reducible exact Below.refl _ _) | (with_reducible refine below_setCell ?_ (by first | (simp; done) | (simp; omega) | omega)) | (with_reducible refine below_alloc _ ?_) | (with_reducible refine below_drewN ?_ _) | (with_reducible assumption) | (with_reducible refine below_after (by assumption) ?_)))) xrw_0) (by omega)
          replace xrw_1 := t13.cell (cell_step (by (repeat (first | (with_reducible exact Below.refl _ _) | (with_reducible refine below_setCell ?_ (by first | (simp; done) | (simp; omega) | omega)) | (with_reducible refine below_alloc _ ?_) | (with_reducible refine below_drewN ?_ _) | (with_reducible assumption) | (with_reducible refine below_after (by assumption) ?_)))) xrw_1) (by omega)
          replace xrw_2 := t13.cell (cell_step (by (repeat (first | (with_reducible exact Below.refl _ _) | (with_reducible refine below_setCell ?_ (by first | (simp; done) | (simp; omega) | omega)) | (with_reducible refine below_alloc _ ?_) | (with_reducible refine below_drewN ?_ _) | (with_reducible assumption) | (with_reducible refine below_after (by assumption) ?_)))) xrw_2) (by omega)
          replace xax0_0 := t13.cell (cell_step (by (repeat (first | (with_reducible exact Below.refl _ _) | (with_reducible refine below_setCell ?_ (by first | (simp; done) | (simp; omega) | omega)) | (with_reducible refine below_alloc _ ?_) | (with_reducible refine below_drewN ?_ _) | (with_reducible assumption) | (with_reducible refine below_after (by assumption) ?_)))) xax0_0) (by omega)
          replace xax0_1 := t13.cell (cell_step (by (repeat (first | (with_reducible exact Below.refl _ _) | (with_reducible refine below_setCell ?_ (by first | (simp; done) | (simp; omega) | omega)) | (with_reducible refine below_alloc _ ?_) | (with_reducible refine below_drewN ?_ _) | (with_reducible assumption) | (with_reducible refine below_after (by assumption) ?_)))) xax0_1) (by omega)
          replace xax0_2 := t13.cell (cell_step (by (repeat (first | (with_reducible exact Below.refl _ _) | (with_reducible refine below_setCell ?_ (by first | (simp; done) | (simp; omega) | omega)) | (with_reducible refine below_alloc _ ?_) | (with_reducible refine below_drewN ?_ _) | (with_reducible assumption) | (with_reducible refine below_after (by assumption) ?_)))) xax0_2) (by omega)
          replace xax1_0 := t13.cell (cell_step (by (repeat (first | (with_reducible exact Below.refl _ _) | (with_reducible refine below_setCell ?_ (by first | (simp; done) | (simp; omega) | omega)) | (with_reducible refine below_alloc _ ?_) | (with_reducible refine below_drewN ?_ _) | (with_reducible assumption) | (with_reducible refine below_after (by assumption) ?_)))) xax1_0) (by omega)
          replace xax1_1 := t13.cell (cell_step (by (repeat (first | (with_reducible exact Below.refl _ _) | (with_reducible refine below_setCell ?_ (by first | (simp; done) | (simp; omega) | omega)) | (with_reducible refine below_alloc _ ?_) | (with_reducible refine below_drewN ?_ _) | (with_reducible assumption) | (with_reducible refine below_after (by assumption) ?_)))) xax1_1) (by omega)
          replace xax1_2 := t13.cell (cell_step (by (repeat (first | (with_reducible exact Below.refl _ _) | (with_reducible refine below_setCell ?_ (by first | (simp; done) | (simp; omega) | omega)) | (with_reducible refine below_alloc _ ?_) | (with_reducible refine below_drewN ?_ _) | (with_reducible assumption) | (with_reducible refine below_after (by assumption) ?_)))) xax1_2) (by omega)
          replace xax1_3 := t13.cell (cell_step (by (repeat (first | (with_reducible exact Below.refl _ _) | (with_reducible refine below_setCell ?_ (by first | (simp; done) | (simp; omega) | omega)) | (with_reducible refine below_alloc _ ?_) | (with_reducible refine below_drewN ?_ _) | (with_reducible assumption) | (with_reducible refine below_after (by assumption) ?_)))) xax1_3) (by omega)
          replace xax1_4 := t13.cell (cell_step (by (repeat (first | (with_reducible exact Below.refl _ _) | (with_reducible refine below_setCell ?_ (by first | (simp; done) | (simp; omega) | omega)) | (with_reducible refine below_alloc _ ?_) | (with_reducible refine below_drewN ?_ _) | (with_reducible assumption) | (with_reducible refine below_after (by assumption) ?_)))) xax1_4) (by omega)
          replace xax1_5 := t13.cell (cell_step (by (repeat (first | (with_reducible exact Below.refl _ _) | (with_reducible refine below_setCell ?_ (by first | (simp; done) | (simp; omega) | omega)) | (with_reducible refine below_alloc _ ?_) | (with_reducible refine below_drewN ?_ _) | (with_reducible assumption) | (with_reducible refine below_after (by assumption) ?_)))) xax1_5) (by omega)
          replace xax1_6 := t13.cell (cell_step (by (repeat (first | (with_reducible exact Below.refl _ _) | (with_reducible refine below_setCell ?_ (by first | (simp; done) | (simp; omega) | omega)) | (with_reducible refine below_alloc _ ?_) | (with_reducible refine below_drewN ?_ _) | (with_reducible assumption) | (with_reducible refine below_after (by assumption) ?_)))) xax1_6) (by omega)
          replace xrg_0 := t13.cell (cell_step (by (repeat (first | (with_reducible exact Below.refl _ _) | (with_reducible refine below_setCell ?_ (by first | (simp; done) | (simp; omega) | omega)) | (with_reducible refine below_alloc _ ?_) | (with_reducible refine below_drewN ?_ _) | (with_reducible assumption) | (with_reducible refine below_after (by assumption) ?_)))) xrg_0) (by omega)
          replace xrg_1 := t13.cell (cell_step (by (repeat (first | (with_reducible exact Below.refl _ _) | (with_reducible refine below_setCell ?_ (by first | (simp; done) | (simp; omega) | omega)) | (with_reducible refine below_alloc _ ?_) | (with_reducible refine below_drewN ?_ _) | (with_reducible assumption) | (with_reducible refine below_after (by assumption) ?_)))) xrg_1) (by omega)
          replace xrg_2 := t13.cell (cell_step (by (repeat (first | (with_reducible exact Below.refl _ _) | (with_reducible refine below_setCell ?_ (by first | (simp; done) | (simp; omega) | omega)) | (with_reducible refine below_alloc _ ?_) | (with_reducible refine below_drewN ?_ _) | (with_reducible assumption) | (with_reducible refine below_after (by assumption) ?_)))) xrg_2) (by omega)
          replace b := Turn.below t13 (by omega) (below_after (by (repeat (first | (with_reducible exact Below.refl _ _) | (with_reducible refine below_setCell ?_ (by first | (simp; done) | (simp; omega) | omega)) | (with_reducible refine below_alloc _ ?_) | (with_reducible refine below_drewN ?_ _) | (with_reducible assumption) | (with_reducible refine below_after (by assumption) ?_)))) b)
          have z13 : u12.heap.size ≤ u13.heap.size := Nat.le_trans (Below.size (B := u12.heap.size) (w := u12) (by (repeat (first | (with_reducible exact Below.refl _ _) | (with_reducible refine below_setCell ?_ (by first | (simp; done) | (simp; omega) | omega)) | (with_reducible refine below_alloc _ ?_) | (with_reducible refine below_drewN ?_ _) | (with_reducible assumption) | (with_reducible refine below_after (by assumption) ?_))))) t13.size
          replace qxa0 := Nat.lt_of_lt_of_le qxa0 z13
          replace qxa1 := Nat.lt_of_lt_of_le qxa1 z13
          replace qBrw := Nat.lt_of_lt_of_le qBrw z13
          replace qxax0 := Nat.lt_of_lt_of_le qxax0 z13
          replace qxax1 := Nat.lt_of_lt_of_le qxax1 z13
          replace qxrg := Nat.lt_of_lt_of_le qxrg z13
          clear t13 rg
          obtain ⟨KR, hKR⟩ : ∃ KR : Nat, 1 + LR = KR := ⟨_, rfl⟩
          have hKRn : (0 : Int) ≤ (KR : Int) := by omega
          rw [hKR] at HhR ⊢
          have hKRu : KR ≤ 1073741824 := by omega
          clear hKR
          go_wp2_with fail
          refine (HhR.out hKRu _ _ (hhrg.below (by (repeat (first | (with_reducible exact Below.refl _ _) | (with_reducible refine below_setCell ?_ (by first | (simp; done) | (simp; omega) | omega)) | (with_reducible refine below_alloc _ ?_) | (with_reducible refine below_drewN ?_ _) | (with_reducible assumption) | (with_reducible refine below_after (by assumption) ?_)))))).mono ?_
          rintro e u14 ⟨rfl, k14⟩
          have m14 : Below u13.heap.size u13 u14 := below_after k14 (by (repeat (first | (with_reducible exact Below.refl _ _) | (with_reducible refine below_setCell ?_ (by first | (simp; done) | (simp; omega) | omega)) | (with_reducible refine below_alloc _ ?_) | (with_reducible refine below_drewN ?_ _) | (with_reducible assumption) | (with_reducible refine below_after (by assumption) ?_))))
          replace s0 := s0.below m14
          replace s1 := s1.below m14
          replace rw := rw.below m14
          replace hhrg := hhrg.below m14
          replace xa0_0 := cell_step m14 xa0_0
          replace xa0_1 := cell_step m14 xa0_1
          replace xa0_2 := cell_step m14 xa0_2
          replace xa1_0 := cell_step m14 xa1_0
          replace xa1_1 := cell_step m14 xa1_1
          replace xa1_2 := cell_step m14 xa1_2
          replace xa1_3 := cell_step m14 xa1_3
          replace xa1_4 := cell_step m14 xa1_4
          replace xa1_5 := cell_step m14 xa1_5
          replace xa1_6 := cell_step m14 xa1_6
          replace xrw_0 := cell_step m14 xrw_0
          replace xrw_1 := cell_step m14 xrw_1
          replace xrw_2 := cell_step m14 xrw_2
          replace xax0_0 := cell_step m14 xax0_0
          replace xax0_1 := cell_step m14 xax0_1
          replace xax0_2 := cell_step m14 xax0_2
          replace xax1_0 := cell_step m14 xax1_0
          replace xax1_1 := cell_step m14 xax1_1
          replace xax1_2 := cell_step m14 xax1_2
          replace xax1_3 := cell_step m14 xax1_3
          replace xax1_4 := cell_step m14 xax1_4
          replace xax1_5 := cell_step m14 xax1_5
          replace xax1_6 := cell_step m14 xax1_6
          replace xrg_0 := cell_step m14 xrg_0
          replace xrg_1 := cell_step m14 xrg_1
          replace xrg_2 := cell_step m14 xrg_2
          replace qxa0 := Nat.lt_of_lt_of_le qxa0 m14.size
          replace qxa1 := Nat.lt_of_lt_of_le qxa1 m14.size
          replace qBrw := Nat.lt_of_lt_of_le qBrw m14.size
          replace qxax0 := Nat.lt_of_lt_of_le qxax0 m14.size
          replace qxax1 := Nat.lt_of_lt_of_le qxax1 m14.size
          replace qxrg := Nat.lt_of_lt_of_le qxrg m14.size
          have z14 : u13.heap.size ≤ u14.heap.size := m14.size
          replace b := m14.mono b.size |> b.trans
          clear m14 k14
          go_upto_region 31 with fail
          go_cut [15, 16] (fun sa sb wx => ∃ (B : Nat) (p : Option Addr) (c : Nat), sa = .pointer (some ⟨B, 0, none⟩) ∧ sb = .bool qq ∧ (u14.heap.size ≤ B ∧ B < wx.heap.size) ∧ wx.cell? ⟨B, 0, none⟩ = some (.slice p res.Reps.length c) ∧ wx.cell? ⟨B, 1, none⟩ = some (.int .i64 res.Term) ∧ wx.cell? ⟨B, 2, none⟩ = some (.int .i64 res.Lead) ∧ Hid (Own Cod.replica wx u14.heap.size (.slice p res.Reps.length c) res.Reps) ∧ Below u14.heap.size u14 wx)
          case first =>
            refine wp_region_d 4 (fun w' => w'.cell? ⟨w.heap.size, 0, none⟩ = some (.slice p0 y0.Reps.length e0) ∧ w'.cell? ⟨w.heap.size, 1, none⟩ = some (.int .i64 y0.Term) ∧ w'.cell? ⟨w.heap.size, 2, none⟩ = some (.int .i64 y0.Lead) ∧ w'.cell? ⟨w.heap.size + 1, 0, none⟩ = some (.int .i64 y1.Kind) ∧ w'.cell? ⟨w.heap.size + 1, 1, none⟩ = some (.int .i64 y1.Txn) ∧ w'.cell? ⟨w.heap.size + 1, 2, none⟩ = some (.int .i64 y1.Time) ∧ w'.cell? ⟨w.heap.size + 1, 3, none⟩ = some (.int .i64 y1.Lead) ∧ w'.cell? ⟨w.heap.size + 1, 4, none⟩ = some (.slice p1 y1.Reads.length e1) ∧ w'.cell? ⟨w.heap.size + 1, 5, none⟩ = some (.slice p1' y1.Writes.length e1') ∧ w'.cell? ⟨w.heap.size + 1, 6, none⟩ = some (.bool y1.Yes)) (by kernel_rfl) ?_
            have hS : u14.drew.cell? ⟨w.heap.size, 0, none⟩ = some (.slice p0 y0.Reps.length e0) ∧ u14.drew.cell? ⟨w.heap.size, 1, none⟩ = some (.int .i64 y0.Term) ∧ u14.drew.cell? ⟨w.heap.size, 2, none⟩ = some (.int .i64 y0.Lead) ∧ u14.drew.cell? ⟨w.heap.size + 1, 0, none⟩ = some (.int .i64 y1.Kind) ∧ u14.drew.cell? ⟨w.heap.size + 1, 1, none⟩ = some (.int .i64 y1.Txn) ∧ u14.drew.cell? ⟨w.heap.size + 1, 2, none⟩ = some (.int .i64 y1.Time) ∧ u14.drew.cell? ⟨w.heap.size + 1, 3, none⟩ = some (.int .i64 y1.Lead) ∧ u14.drew.cell? ⟨w.heap.size + 1, 4, none⟩ = some (.slice p1 y1.Reads.length e1) ∧ u14.drew.cell? ⟨w.heap.size + 1, 5, none⟩ = some (.slice p1' y1.Writes.length e1') ∧ u14.drew.cell? ⟨w.heap.size + 1, 6, none⟩ = some (.bool y1.Yes) := ⟨xa0_0, xa0_1, xa0_2, xa1_0, xa1_1, xa1_2, xa1_3, xa1_4, xa1_5, xa1_6⟩
            refine d_take (f := 30) (v := ?_) 0 rfl (by kernel_rfl) (fun _ _ _ h => h) (Or.inl ⟨by rfl, ?_⟩) hS ?_
            rotate_left
            · intro wx hx
              obtain ⟨x0, x1, x2, x3, x4, x5, x6, x7, x8, x9⟩ := hx
              first | (go_simp; done) | (go_simp; with_reducible rfl)
            simp only [Act.put, List.setIfInBounds_toArray]
            refine d_take (f := 30) (v := ?_) 2 rfl (by kernel_rfl) (fun _ _ _ h => h) (Or.inl ⟨by rfl, ?_⟩) hS ?_
            rotate_left
            · intro wx hx
              obtain ⟨x0, x1, x2, x3, x4, x5, x6, x7, x8, x9⟩ := hx
              first | (go_simp; done) | (go_simp; with_reducible rfl)
            simp only [Act.put]
            clear hS
            refine d_two 1 8 (by kernel_rfl) rfl rfl (fun K hK => ?_) (fun K hK => ?_)
            · skip
              go_simp
              go_at_call 12
              refine (Ht0.out hc0 _ (s0.below (show Below u14.heap.size u14 u14.drew from by (repeat (first | (with_reducible exact Below.refl _ _) | (with_reducible refine below_setCell ?_ (by first | (simp; done) | (simp; omega) | omega)) | (with_reducible refine below_alloc _ ?_) | (with_reducible refine below_drewN ?_ _) | (with_reducible refine below_drew_step ?_) | (with_reducible assumption) | (with_reducible refine below_after (by assumption) ?_))))).rd).mono ?_
              rintro e x1 ⟨tt1, vv1, rfl, o1, k⟩
              have m_x1 : Below u14.heap.size u14 x1 := below_after k (show Below u14.heap.size u14 u14.drew from by (repeat (first | (with_reducible exact Below.refl _ _) | (with_reducible refine below_setCell ?_ (by first | (simp; done) | (simp; omega) | omega)) | (with_reducible refine below_alloc _ ?_) | (with_reducible refine below_drewN ?_ _) | (with_reducible refine below_drew_step ?_) | (with_reducible assumption) | (with_reducible refine below_after (by assumption) ?_))))
              have R1 := Lib.hid o1.rd
              clear o1
              refine hK.out _ _ (fun _ => ⟨cell_step m_x1 xa0_0, cell_step m_x1 xa0_1, cell_step m_x1 xa0_2, cell_step m_x1 xa1_0, cell_step m_x1 xa1_1, cell_step m_x1 xa1_2, cell_step m_x1 xa1_3, cell_step m_x1 xa1_4, cell_step m_x1 xa1_5, cell_step m_x1 xa1_6⟩) ?_
              clear hK K k
              try simp only [Act.put, List.setIfInBounds_toArray, List.set_cons_zero, List.set_cons_succ]
              refine d_two 3 8 (by kernel_rfl) rfl rfl (fun K hK => ?_) (fun K hK => ?_)
              · skip
                go_simp
                go_at_call 21
                refine (Ht1.out hc1 _ (s1.below m_x1).rd1 (s1.below m_x1).rd2).mono ?_
                rintro e x2 ⟨tt2, vv2, tt3, vv3, rfl, o2, k⟩
                have m_x2 : Below u14.heap.size u14 x2 := below_after k m_x1
                replace R1 := Lib.hid (R1.out.below k)
                have R2 := Lib.hid o2.rd1
                have R3 := Lib.hid o2.rd2
                clear o2
                refine hK.out _ _ (fun _ => ⟨cell_step m_x2 xa0_0, cell_step m_x2 xa0_1, cell_step m_x2 xa0_2, cell_step m_x2 xa1_0, cell_step m_x2 xa1_1, cell_step m_x2 xa1_2, cell_step m_x2 xa1_3, cell_step m_x2 xa1_4, cell_step m_x2 xa1_5, cell_step m_x2 xa1_6⟩) ?_
                clear hK K k
                try simp only [Act.put, List.setIfInBounds_toArray, List.set_cons_zero, List.set_cons_succ]
                refine d_two 4 8 (by kernel_rfl) rfl rfl (fun K hK => ?_) (fun K hK => ?_)
                · skip
                  go_simp
                  go_at_call 22
                  refine (HI.out hc0 hc1 _ _ R1.out _ _ R2.out R3.out).mono ?_
                  rintro e x3 ⟨v3, rfl, o3, k⟩
                  obtain ⟨p3, c3, rfl⟩ := o3.form
                  have m_x3 : Below u14.heap.size u14 x3 := below_after k m_x2
                  have O3 := Lib.hid o3
                  have z3 := k.size
                  clear o3 R1 R2 R3
                  refine hK.out _ _ (fun h => by exact absurd h (by decide)) ?_
                  clear hK K k
                  try simp only [Act.put, List.setIfInBounds_toArray, List.set_cons_zero, List.set_cons_succ]
                  refine d_takeYL (v := ?_) 5 rfl (by kernel_rfl) (fun _ _ _ h => h) (Or.inl ⟨by rfl, ?_⟩) ?_
                  rotate_left
                  · intro wx _
                    first | (go_simp; done) | (go_simp; with_reducible rfl)
                  simp only [Act.put, List.setIfInBounds_toArray]
                  refine d_takeYL (v := ?_) 6 rfl (by kernel_rfl) (fun _ _ _ h => h) (Or.inl ⟨by rfl, ?_⟩) ?_
                  rotate_left
                  · intro wx _
                    first | (go_simp; done) | (go_simp; with_reducible rfl)
                  simp only [Act.put]
                  refine d_takeYL (v := ?_) 7 rfl (by kernel_rfl) (fun _ _ _ h => h) (Or.inl ⟨by rfl, ?_⟩) ?_
                  rotate_left
                  · intro wx _
                    first | (go_simp; done) | (go_simp; with_reducible rfl)
                  simp only [Act.put]
                  refine d_step 8 (by kernel_rfl) rfl (fun K hK => ?_)
                  go_simp
                  generalize hA : World.alloc _ _ = wA
                  have m_wA : Below u14.heap.size u14 wA := by rw [← hA]; exact below_alloc _ m_x3
                  have hBlo : u14.heap.size ≤ x3.heap.size := m_x3.size
                  have hBW : x3.heap.size < wA.heap.size := by rw [← hA]; simp
                  have q0 : wA.cell? ⟨x3.heap.size, 0, none⟩ = some (.slice none 0 0) := by rw [← hA]; simp [go_sem]
                  have q1 : wA.cell? ⟨x3.heap.size, 1, none⟩ = some (.int .i64 0) := by rw [← hA]; simp [go_sem]
                  have q2 : wA.cell? ⟨x3.heap.size, 2, none⟩ = some (.int .i64 0) := by rw [← hA]; simp [go_sem]
                  have f0 : wA.frozen? ⟨x3.heap.size, 0, none⟩ = false := by rw [← hA]; simp [go_sem]
                  have f1 : wA.frozen? ⟨x3.heap.size, 1, none⟩ = false := by rw [← hA]; simp [go_sem]
                  have f2 : wA.frozen? ⟨x3.heap.size, 2, none⟩ = false := by rw [← hA]; simp [go_sem]
                  have hAb : Below x3.heap.size x3 wA := by rw [← hA]; exact below_new _ _
                  clear hA
                  refine hK.out _ _ (fun h => by exact absurd h (by decide)) ?_
                  clear hK K
                  try simp only [Act.put, List.setIfInBounds_toArray, List.set_cons_zero, List.set_cons_succ]
                  refine d_step 9 (by kernel_rfl) rfl (fun K hK => ?_)
                  go_simp
                  refine hK.out _ _ (fun h => by exact absurd h (by decide)) ?_
                  clear hK K
                  try simp only [Act.put, List.setIfInBounds_toArray, List.set_cons_zero, List.set_cons_succ]
                  refine d_step 10 (by kernel_rfl) rfl (fun K hK => ?_)
                  go_simp
                  refine hK.out _ _ (fun h => by exact absurd h (by decide)) ?_
                  clear hK K
                  refine d_done (by kernel_rfl) ?_ _
                  try simp only [Act.put, List.setIfInBounds_toArray, List.set_cons_zero, List.set_cons_succ]
                  go_wp2_with fail
                  go_meet
                  exact ⟨_, p3, c3, rfl, by rw [hqq], ⟨hBlo, by simp; omega⟩, by simp [go_sem, q0], by simp [go_sem, q1], by simp [go_sem, q2], Lib.hid ((O3.out.below (by (repeat (first | (with_reducible exact Below.refl _ _) | (with_reducible refine below_setCell ?_ (by first | (simp; done) | (simp; omega) | omega)) | (with_reducible refine below_alloc _ ?_) | (with_reducible refine below_drewN ?_ _) | (with_reducible assumption) | (with_reducible refine below_after (by assumption) ?_))))).mono m_x2.size), by (repeat (first | (with_reducible exact Below.refl _ _) | (with_reducible refine below_setCell ?_ (by first | (simp; done) | (simp; omega) | omega)) | (with_reducible refine below_alloc _ ?_) | (with_reducible refine below_drewN ?_ _) | (with_reducible assumption) | (with_reducible refine below_after (by assumption) ?_)))⟩
                · skip
                  go_simp
                  generalize hA : World.alloc _ _ = wA
                  have m_wA : Below u14.heap.size u14 wA := by rw [← hA]; exact below_alloc _ m_x2
                  have hBlo : u14.heap.size ≤ x2.heap.size := m_x2.size
                  have hBW : x2.heap.size < wA.heap.size := by rw [← hA]; simp
                  have q0 : wA.cell? ⟨x2.heap.size, 0, none⟩ = some (.slice none 0 0) := by rw [← hA]; simp [go_sem]
                  have q1 : wA.cell? ⟨x2.heap.size, 1, none⟩ = some (.int .i64 0) := by rw [← hA]; simp [go_sem]
                  have q2 : wA.cell? ⟨x2.heap.size, 2, none⟩ = some (.int .i64 0) := by rw [← hA]; simp [go_sem]
                  have f0 : wA.frozen? ⟨x2.heap.size, 0, none⟩ = false := by rw [← hA]; simp [go_sem]
                  have f1 : wA.frozen? ⟨x2.heap.size, 1, none⟩ = false := by rw [← hA]; simp [go_sem]
                  have f2 : wA.frozen? ⟨x2.heap.size, 2, none⟩ = false := by rw [← hA]; simp [go_sem]
                  replace R1 := Lib.hid (R1.out.below (show Below x2.heap.size x2 wA from by rw [← hA]; exact below_new _ _))
                  replace R2 := Lib.hid (R2.out.below (show Below x2.heap.size x2 wA from by rw [← hA]; exact below_new _ _))
                  replace R3 := Lib.hid (R3.out.below (show Below x2.heap.size x2 wA from by rw [← hA]; exact below_new _ _))
                  clear hA
                  refine hK.out _ _ (fun _ => ⟨cell_step m_wA xa0_0, cell_step m_wA xa0_1, cell_step m_wA xa0_2, cell_step m_wA xa1_0, cell_step m_wA xa1_1, cell_step m_wA xa1_2, cell_step m_wA xa1_3, cell_step m_wA xa1_4, cell_step m_wA xa1_5, cell_step m_wA xa1_6⟩) ?_
                  clear hK K
                  try simp only [Act.put, List.setIfInBounds_toArray, List.set_cons_zero, List.set_cons_succ]
                  refine d_step 4 (by kernel_rfl) rfl (fun K hK => ?_)
                  go_simp
                  go_at_call 22
                  refine (HI.out hc0 hc1 _ _ R1.out _ _ R2.out R3.out).mono ?_
                  rintro e x3 ⟨v3, rfl, o3, k⟩
                  obtain ⟨p3, c3, rfl⟩ := o3.form
                  have m_x3 : Below u14.heap.size u14 x3 := below_after k m_wA
                  replace q0 := (k.cell (p := ⟨x2.heap.size, 0, none⟩) hBW).trans q0
                  replace f0 := (k.frozen (p := ⟨x2.heap.size, 0, none⟩) hBW).trans f0
                  replace q1 := (k.cell (p := ⟨x2.heap.size, 1, none⟩) hBW).trans q1
                  replace f1 := (k.frozen (p := ⟨x2.heap.size, 1, none⟩) hBW).trans f1
                  replace q2 := (k.cell (p := ⟨x2.heap.size, 2, none⟩) hBW).trans q2
                  replace f2 := (k.frozen (p := ⟨x2.heap.size, 2, none⟩) hBW).trans f2
                  have hOB := hBW
                  replace hBW := Nat.lt_of_lt_of_le hBW k.size
                  have O3 := Lib.hid o3
                  have z3 := k.size
                  clear o3 R1 R2 R3
                  refine hK.out _ _ (fun h => by exact absurd h (by decide)) ?_
                  clear hK K k
                  try simp only [Act.put, List.setIfInBounds_toArray, List.set_cons_zero, List.set_cons_succ]
                  refine d_takeYL (v := ?_) 5 rfl (by kernel_rfl) (fun _ _ _ h => h) (Or.inl ⟨by rfl, ?_⟩) ?_
                  rotate_left
                  · intro wx _
                    first | (go_simp; done) | (go_simp; with_reducible rfl)
                  simp only [Act.put, List.setIfInBounds_toArray]
                  refine d_takeYL (v := ?_) 6 rfl (by kernel_rfl) (fun _ _ _ h => h) (Or.inl ⟨by rfl, ?_⟩) ?_
                  rotate_left
                  · intro wx _
                    first | (go_simp; done) | (go_simp; with_reducible rfl)
                  simp only [Act.put]
                  refine d_takeYL (v := ?_) 7 rfl (by kernel_rfl) (fun _ _ _ h => h) (Or.inl ⟨by rfl, ?_⟩) ?_
                  rotate_left
                  · intro wx _
                    first | (go_simp; done) | (go_simp; with_reducible rfl)
                  simp only [Act.put]
                  refine d_step 9 (by kernel_rfl) rfl (fun K hK => ?_)
                  go_simp
                  refine hK.out _ _ (fun h => by exact absurd h (by decide)) ?_
                  clear hK K
                  try simp only [Act.put, List.setIfInBounds_toArray, List.set_cons_zero, List.set_cons_succ]
                  refine d_step 10 (by kernel_rfl) rfl (fun K hK => ?_)
                  go_simp
                  refine hK.out _ _ (fun h => by exact absurd h (by decide)) ?_
                  clear hK K
                  refine d_done (by kernel_rfl) ?_ _
                  try simp only [Act.put, List.setIfInBounds_toArray, List.set_cons_zero, List.set_cons_succ]
                  go_wp2_with fail
                  go_meet
                  exact ⟨_, p3, c3, rfl, by rw [hqq], ⟨hBlo, by simp; omega⟩, by simp [go_sem, q0], by simp [go_sem, q1], by simp [go_sem, q2], Lib.hid ((O3.out.keep (Nat.le_refl _) (by (repeat (first | (with_reducible exact Keep.refl _ _) | (with_reducible refine keep_set ?_ (by first | (simp; done) | (simp; omega) | omega)) | (with_reducible refine keep_alloc _ ?_) | (with_reducible refine keep_drewN ?_ _) | (with_reducible assumption) | (with_reducible refine keep_below (by assumption) ?_))))).mono m_wA.size), by (repeat (first | (with_reducible exact Below.refl _ _) | (with_reducible refine below_setCell ?_ (by first | (simp; done) | (simp; omega) | omega)) | (with_reducible refine below_alloc _ ?_) | (with_reducible refine below_drewN ?_ _) | (with_reducible assumption) | (with_reducible refine below_after (by assumption) ?_)))⟩
              · skip
                go_simp
                generalize hA : World.alloc _ _ = wA
                have m_wA : Below u14.heap.size u14 wA := by rw [← hA]; exact below_alloc _ m_x1
                have hBlo : u14.heap.size ≤ x1.heap.size := m_x1.size
                have hBW : x1.heap.size < wA.heap.size := by rw [← hA]; simp
                have q0 : wA.cell? ⟨x1.heap.size, 0, none⟩ = some (.slice none 0 0) := by rw [← hA]; simp [go_sem]
                have q1 : wA.cell? ⟨x1.heap.size, 1, none⟩ = some (.int .i64 0) := by rw [← hA]; simp [go_sem]
                have q2 : wA.cell? ⟨x1.heap.size, 2, none⟩ = some (.int .i64 0) := by rw [← hA]; simp [go_sem]
                have f0 : wA.frozen? ⟨x1.heap.size, 0, none⟩ = false := by rw [← hA]; simp [go_sem]
                have f1 : wA.frozen? ⟨x1.heap.size, 1, none⟩ = false := by rw [← hA]; simp [go_sem]
                have f2 : wA.frozen? ⟨x1.heap.size, 2, none⟩ = false := by rw [← hA]; simp [go_sem]
                replace R1 := Lib.hid (R1.out.below (show Below x1.heap.size x1 wA from by rw [← hA]; exact below_new _ _))
                clear hA
                refine hK.out _ _ (fun _ => ⟨cell_step m_wA xa0_0, cell_step m_wA xa0_1, cell_step m_wA xa0_2, cell_step m_wA xa1_0, cell_step m_wA xa1_1, cell_step m_wA xa1_2, cell_step m_wA xa1_3, cell_step m_wA xa1_4, cell_step m_wA xa1_5, cell_step m_wA xa1_6⟩) ?_
                clear hK K
                try simp only [Act.put, List.setIfInBounds_toArray, List.set_cons_zero, List.set_cons_succ]
                refine d_step 3 (by kernel_rfl) rfl (fun K hK => ?_)
                go_simp
                go_at_call 21
                refine (Ht1.out hc1 _ (s1.below m_wA).rd1 (s1.below m_wA).rd2).mono ?_
                rintro e x2 ⟨tt2, vv2, tt3, vv3, rfl, o2, k⟩
                have m_x2 : Below u14.heap.size u14 x2 := below_after k m_wA
                replace q0 := (k.cell (p := ⟨x1.heap.size, 0, none⟩) hBW).trans q0
                replace f0 := (k.frozen (p := ⟨x1.heap.size, 0, none⟩) hBW).trans f0
                replace q1 := (k.cell (p := ⟨x1.heap.size, 1, none⟩) hBW).trans q1
                replace f1 := (k.frozen (p := ⟨x1.heap.size, 1, none⟩) hBW).trans f1
                replace q2 := (k.cell (p := ⟨x1.heap.size, 2, none⟩) hBW).trans q2
                replace f2 := (k.frozen (p := ⟨x1.heap.size, 2, none⟩) hBW).trans f2
                replace hBW := Nat.lt_of_lt_of_le hBW k.size
                replace R1 := Lib.hid (R1.out.below k)
                have R2 := Lib.hid o2.rd1
                have R3 := Lib.hid o2.rd2
                clear o2
                refine hK.out _ _ (fun _ => ⟨cell_step m_x2 xa0_0, cell_step m_x2 xa0_1, cell_step m_x2 xa0_2, cell_step m_x2 xa1_0, cell_step m_x2 xa1_1, cell_step m_x2 xa1_2, cell_step m_x2 xa1_3, cell_step m_x2 xa1_4, cell_step m_x2 xa1_5, cell_step m_x2 xa1_6⟩) ?_
                clear hK K k
                try simp only [Act.put, List.setIfInBounds_toArray, List.set_cons_zero, List.set_cons_succ]
                refine d_step 4 (by kernel_rfl) rfl (fun K hK => ?_)
                go_simp
                go_at_call 22
                refine (HI.out hc0 hc1 _ _ R1.out _ _ R2.out R3.out).mono ?_
                rintro e x3 ⟨v3, rfl, o3, k⟩
                obtain ⟨p3, c3, rfl⟩ := o3.form
                have m_x3 : Below u14.heap.size u14 x3 := below_after k m_x2
                replace q0 := (k.cell (p := ⟨x1.heap.size, 0, none⟩) hBW).trans q0
                replace f0 := (k.frozen (p := ⟨x1.heap.size, 0, none⟩) hBW).trans f0
                replace q1 := (k.cell (p := ⟨x1.heap.size, 1, none⟩) hBW).trans q1
                replace f1 := (k.frozen (p := ⟨x1.heap.size, 1, none⟩) hBW).trans f1
                replace q2 := (k.cell (p := ⟨x1.heap.size, 2, none⟩) hBW).trans q2
                replace f2 := (k.frozen (p := ⟨x1.heap.size, 2, none⟩) hBW).trans f2
                have hOB := hBW
                replace hBW := Nat.lt_of_lt_of_le hBW k.size
                have O3 := Lib.hid o3
                have z3 := k.size
                clear o3 R1 R2 R3
                refine hK.out _ _ (fun h => by exact absurd h (by decide)) ?_
                clear hK K k
                try simp only [Act.put, List.setIfInBounds_toArray, List.set_cons_zero, List.set_cons_succ]
                refine d_takeYL (v := ?_) 5 rfl (by kernel_rfl) (fun _ _ _ h => h) (Or.inl ⟨by rfl, ?_⟩) ?_
                rotate_left
                · intro wx _
                  first | (go_simp; done) | (go_simp; with_reducible rfl)
                simp only [Act.put, List.setIfInBounds_toArray]
                refine d_takeYL (v := ?_) 6 rfl (by kernel_rfl) (fun _ _ _ h => h) (Or.inl ⟨by rfl, ?_⟩) ?_
                rotate_left
                · intro wx _
                  first | (go_simp; done) | (go_simp; with_reducible rfl)
                simp only [Act.put]
                refine d_takeYL (v := ?_) 7 rfl (by kernel_rfl) (fun _ _ _ h => h) (Or.inl ⟨by rfl, ?_⟩) ?_
                rotate_left
                · intro wx _
                  first | (go_simp; done) | (go_simp; with_reducible rfl)
                simp only [Act.put]
                refine d_step 9 (by kernel_rfl) rfl (fun K hK => ?_)
                go_simp
                refine hK.out _ _ (fun h => by exact absurd h (by decide)) ?_
                clear hK K
                try simp only [Act.put, List.setIfInBounds_toArray, List.set_cons_zero, List.set_cons_succ]
                refine d_step 10 (by kernel_rfl) rfl (fun K hK => ?_)
                go_simp
                refine hK.out _ _ (fun h => by exact absurd h (by decide)) ?_
                clear hK K
                refine d_done (by kernel_rfl) ?_ _
                try simp only [Act.put, List.setIfInBounds_toArray, List.set_cons_zero, List.set_cons_succ]
                go_wp2_with fail
                go_meet
                exact ⟨_, p3, c3, rfl, by rw [hqq], ⟨hBlo, by simp; omega⟩, by simp [go_sem, q0], by simp [go_sem, q1], by simp [go_sem, q2], Lib.hid ((O3.out.keep (Nat.le_refl _) (by (repeat (first | (with_reducible exact Keep.refl _ _) | (with_reducible refine keep_set ?_ (by first | (simp; done) | (simp; omega) | omega)) | (with_reducible refine keep_alloc _ ?_) | (with_reducible refine keep_drewN ?_ _) | (with_reducible assumption) | (with_reducible refine keep_below (by assumption) ?_))))).mono m_x2.size), by (repeat (first | (with_reducible exact Below.refl _ _) | (with_reducible refine below_setCell ?_ (by first | (simp; done) | (simp; omega) | omega)) | (with_reducible refine below_alloc _ ?_) | (with_reducible refine below_drewN ?_ _) | (with_reducible assumption) | (with_reducible refine below_after (by assumption) ?_)))⟩
            · skip
              go_simp
              generalize hA : World.drew (World.alloc _ _) = wA
              have m_wA : Below u14.heap.size u14 wA := by rw [← hA]; (repeat (first | (with_reducible exact Below.refl _ _) | (with_reducible refine below_setCell ?_ (by first | (simp; done) | (simp; omega) | omega)) | (with_reducible refine below_alloc _ ?_) | (with_reducible refine below_drewN ?_ _) | (with_reducible refine below_drew_step ?_) | (with_reducible assumption) | (with_reducible refine below_after (by assumption) ?_)))
              have hBlo : u14.heap.size ≤ u14.heap.size := Nat.le_refl _
              have hBW : u14.heap.size < wA.heap.size := by rw [← hA]; simp
              have q0 : wA.cell? ⟨u14.heap.size, 0, none⟩ = some (.slice none 0 0) := by rw [← hA]; simp [go_sem]
              have q1 : wA.cell? ⟨u14.heap.size, 1, none⟩ = some (.int .i64 0) := by rw [← hA]; simp [go_sem]
              have q2 : wA.cell? ⟨u14.heap.size, 2, none⟩ = some (.int .i64 0) := by rw [← hA]; simp [go_sem]
              have f0 : wA.frozen? ⟨u14.heap.size, 0, none⟩ = false := by rw [← hA]; simp [go_sem]
              have f1 : wA.frozen? ⟨u14.heap.size, 1, none⟩ = false := by rw [← hA]; simp [go_sem]
              have f2 : wA.frozen? ⟨u14.heap.size, 2, none⟩ = false := by rw [← hA]; simp [go_sem]
              clear hA
              refine hK.out _ _ (fun _ => ⟨cell_step m_wA xa0_0, cell_step m_wA xa0_1, cell_step m_wA xa0_2, cell_step m_wA xa1_0, cell_step m_wA xa1_1, cell_step m_wA xa1_2, cell_step m_wA xa1_3, cell_step m_wA xa1_4, cell_step m_wA xa1_5, cell_step m_wA xa1_6⟩) ?_
              clear hK K
              try simp only [Act.put, List.setIfInBounds_toArray, List.set_cons_zero, List.set_cons_succ]
              refine d_step 1 (by kernel_rfl) rfl (fun K hK => ?_)
              go_simp
              go_at_call 12
              refine (Ht0.out hc0 _ (s0.below m_wA).rd).mono ?_
              rintro e x1 ⟨tt1, vv1, rfl, o1, k⟩
              have m_x1 : Below u14.heap.size u14 x1 := below_after k m_wA
              replace q0 := (k.cell (p := ⟨u14.heap.size, 0, none⟩) hBW).trans q0
              replace f0 := (k.frozen (p := ⟨u14.heap.size, 0, none⟩) hBW).trans f0
              replace q1 := (k.cell (p := ⟨u14.heap.size, 1, none⟩) hBW).trans q1
              replace f1 := (k.frozen (p := ⟨u14.heap.size, 1, none⟩) hBW).trans f1
              replace q2 := (k.cell (p := ⟨u14.heap.size, 2, none⟩) hBW).trans q2
              replace f2 := (k.frozen (p := ⟨u14.heap.size, 2, none⟩) hBW).trans f2
              replace hBW := Nat.lt_of_lt_of_le hBW k.size
              have R1 := Lib.hid o1.rd
              clear o1
              refine hK.out _ _ (fun _ => ⟨cell_step m_x1 xa0_0, cell_step m_x1 xa0_1, cell_step m_x1 xa0_2, cell_step m_x1 xa1_0, cell_step m_x1 xa1_1, cell_step m_x1 xa1_2, cell_step m_x1 xa1_3, cell_step m_x1 xa1_4, cell_step m_x1 xa1_5, cell_step m_x1 xa1_6⟩) ?_
              clear hK K k
              try simp only [Act.put, List.setIfInBounds_toArray, List.set_cons_zero, List.set_cons_succ]
              refine d_step 3 (by kernel_rfl) rfl (fun K hK => ?_)
              go_simp
              go_at_call 21
              refine (Ht1.out hc1 _ (s1.below m_x1).rd1 (s1.below m_x1).rd2).mono ?_
              rintro e x2 ⟨tt2, vv2, tt3, vv3, rfl, o2, k⟩
              have m_x2 : Below u14.heap.size u14 x2 := below_after k m_x1
              replace q0 := (k.cell (p := ⟨u14.heap.size, 0, none⟩) hBW).trans q0
              replace f0 := (k.frozen (p := ⟨u14.heap.size, 0, none⟩) hBW).trans f0
              replace q1 := (k.cell (p := ⟨u14.heap.size, 1, none⟩) hBW).trans q1
              replace f1 := (k.frozen (p := ⟨u14.heap.size, 1, none⟩) hBW).trans f1
              replace q2 := (k.cell (p := ⟨u14.heap.size, 2, none⟩) hBW).trans q2
              replace f2 := (k.frozen (p := ⟨u14.heap.size, 2, none⟩) hBW).trans f2
              replace hBW := Nat.lt_of_lt_of_le hBW k.size
              replace R1 := Lib.hid (R1.out.below k)
              have R2 := Lib.hid o2.rd1
              have R3 := Lib.hid o2.rd2
              clear o2
              refine hK.out _ _ (fun _ => ⟨cell_step m_x2 xa0_0, cell_step m_x2 xa0_1, cell_step m_x2 xa0_2, cell_step m_x2 xa1_0, cell_step m_x2 xa1_1, cell_step m_x2 xa1_2, cell_step m_x2 xa1_3, cell_step m_x2 xa1_4, cell_step m_x2 xa1_5, cell_step m_x2 xa1_6⟩) ?_
              clear hK K k
              try simp only [Act.put, List.setIfInBounds_toArray, List.set_cons_zero, List.set_cons_succ]
              refine d_step 4 (by kernel_rfl) rfl (fun K hK => ?_)
              go_simp
              go_at_call 22
              refine (HI.out hc0 hc1 _ _ R1.out _ _ R2.out R3.out).mono ?_
              rintro e x3 ⟨v3, rfl, o3, k⟩
              obtain ⟨p3, c3, rfl⟩ := o3.form
              have m_x3 : Below u14.heap.size u14 x3 := below_after k m_x2
              replace q0 := (k.cell (p := ⟨u14.heap.size, 0, none⟩) hBW).trans q0
              replace f0 := (k.frozen (p := ⟨u14.heap.size, 0, none⟩) hBW).trans f0
              replace q1 := (k.cell (p := ⟨u14.heap.size, 1, none⟩) hBW).trans q1
              replace f1 := (k.frozen (p := ⟨u14.heap.size, 1, none⟩) hBW).trans f1
              replace q2 := (k.cell (p := ⟨u14.heap.size, 2, none⟩) hBW).trans q2
              replace f2 := (k.frozen (p := ⟨u14.heap.size, 2, none⟩) hBW).trans f2
              have hOB := hBW
              replace hBW := Nat.lt_of_lt_of_le hBW k.size
              have O3 := Lib.hid o3
              have z3 := k.size
              clear o3 R1 R2 R3
              refine hK.out _ _ (fun h => by exact absurd h (by decide)) ?_
              clear hK K k
              try simp only [Act.put, List.setIfInBounds_toArray, List.set_cons_zero, List.set_cons_succ]
              refine d_takeYL (v := ?_) 5 rfl (by kernel_rfl) (fun _ _ _ h => h) (Or.inl ⟨by rfl, ?_⟩) ?_
              rotate_left
              · intro wx _
                first | (go_simp; done) | (go_simp; with_reducible rfl)
              simp only [Act.put, List.setIfInBounds_toArray]
              refine d_takeYL (v := ?_) 6 rfl (by kernel_rfl) (fun _ _ _ h => h) (Or.inl ⟨by rfl, ?_⟩) ?_
              rotate_left
              · intro wx _
                first | (go_simp; done) | (go_simp; with_reducible rfl)
              simp only [Act.put]
              refine d_takeYL (v := ?_) 7 rfl (by kernel_rfl) (fun _ _ _ h => h) (Or.inl ⟨by rfl, ?_⟩) ?_
              rotate_left
              · intro wx _
                first | (go_simp; done) | (go_simp; with_reducible rfl)
              simp only [Act.put]
              refine d_step 9 (by kernel_rfl) rfl (fun K hK => ?_)
              go_simp
              refine hK.out _ _ (fun h => by exact absurd h (by decide)) ?_
              clear hK K
              try simp only [Act.put, List.setIfInBounds_toArray, List.set_cons_zero, List.set_cons_succ]
              refine d_step 10 (by kernel_rfl) rfl (fun K hK => ?_)
              go_simp
              refine hK.out _ _ (fun h => by exact absurd h (by decide)) ?_
              clear hK K
              refine d_done (by kernel_rfl) ?_ _
              try simp only [Act.put, List.setIfInBounds_toArray, List.set_cons_zero, List.set_cons_succ]
              go_wp2_with fail
              go_meet
              exact ⟨_, p3, c3, rfl, by rw [hqq], ⟨hBlo, by simp; omega⟩, by simp [go_sem, q0], by simp [go_sem, q1], by simp [go_sem, q2], Lib.hid ((O3.out.keep (Nat.le_refl _) (by (repeat (first | (with_reducible exact Keep.refl _ _) | (with_reducible refine keep_set ?_ (by first | (simp; done) | (simp; omega) | omega)) | (with_reducible refine keep_alloc _ ?_) | (with_reducible refine keep_drewN ?_ _) | (with_reducible assumption) | (with_reducible refine keep_below (by assumption) ?_))))).mono m_x2.size), by (repeat (first | (with_reducible exact Below.refl _ _) | (with_reducible refine below_setCell ?_ (by first | (simp; done) | (simp; omega) | omega)) | (with_reducible refine below_alloc _ ?_) | (with_reducible refine below_drewN ?_ _) | (with_reducible assumption) | (with_reducible refine below_after (by assumption) ?_)))⟩
          case rest =>
            obtain ⟨Brh, prh, erh, rfl, hsb, ⟨hBrh, qBrh⟩, xrh_0, xrh_1, xrh_2, orh, k15⟩ := hcut
            rw [hqq] at hsb
            obtain rfl := hsb
            obtain ⟨u15, rfl⟩ : ∃ u15 : World, u15 = wc := ⟨_, rfl⟩
            have rh := orh.out.within
            clear orh
            have yBrh := qBrh
            have m15 : Below u14.heap.size u14 u15 := below_after k15 (by (repeat (first | (with_reducible exact Below.refl _ _) | (with_reducible refine below_setCell ?_ (by first | (simp; done) | (simp; omega) | omega)) | (with_reducible refine below_alloc _ ?_) | (with_reducible refine below_drewN ?_ _) | (with_reducible assumption) | (with_reducible refine below_after (by assumption) ?_))))
            replace s0 := s0.below m15
            replace s1 := s1.below m15
            replace rw := rw.below m15
            replace hhrg := hhrg.below m15
            replace xa0_0 := cell_step m15 xa0_0
            replace xa0_1 := cell_step m15 xa0_1
            replace xa0_2 := cell_step m15 xa0_2
            replace xa1_0 := cell_step m15 xa1_0
            replace xa1_1 := cell_step m15 xa1_1
            replace xa1_2 := cell_step m15 xa1_2
            replace xa1_3 := cell_step m15 xa1_3
            replace xa1_4 := cell_step m15 xa1_4
            replace xa1_5 := cell_step m15 xa1_5
            replace xa1_6 := cell_step m15 xa1_6
            replace xrw_0 := cell_step m15 xrw_0
            replace xrw_1 := cell_step m15 xrw_1
            replace xrw_2 := cell_step m15 xrw_2
            replace xax0_0 := cell_step m15 xax0_0
            replace xax0_1 := cell_step m15 xax0_1
            replace xax0_2 := cell_step m15 xax0_2
            replace xax1_0 := cell_step m15 xax1_0
            replace xax1_1 := cell_step m15 xax1_1
            replace xax1_2 := cell_step m15 xax1_2
            replace xax1_3 := cell_step m15 xax1_3
            replace xax1_4 := cell_step m15 xax1_4
            replace xax1_5 := cell_step m15 xax1_5
            replace xax1_6 := cell_step m15 xax1_6
            replace xrg_0 := cell_step m15 xrg_0
            replace xrg_1 := cell_step m15 xrg_1
            replace xrg_2 := cell_step m15 xrg_2
            replace qxa0 := Nat.lt_of_lt_of_le qxa0 m15.size
            replace qxa1 := Nat.lt_of_lt_of_le qxa1 m15.size
            replace qBrw := Nat.lt_of_lt_of_le qBrw m15.size
            replace qxax0 := Nat.lt_of_lt_of_le qxax0 m15.size
            replace qxax1 := Nat.lt_of_lt_of_le qxax1 m15.size
            replace qxrg := Nat.lt_of_lt_of_le qxrg m15.size
            have z15 : u14.heap.size ≤ u15.heap.size := m15.size
            replace b := m15.mono b.size |> b.trans
            clear m15 k15
            go_wp2_with fail
            refine (HeR.out hcR _ _ _ (rh.below (by (repeat (first | (with_reducible exact Below.refl _ _) | (with_reducible refine below_setCell ?_ (by first | (simp; done) | (simp; omega) | omega)) | (with_reducible refine below_alloc _ ?_) | (with_reducible refine below_drewN ?_ _) | (with_reducible assumption) | (with_reducible refine below_after (by assumption) ?_))))).rd (rw.below (by (repeat (first | (with_reducible exact Below.refl _ _) | (with_reducible refine below_setCell ?_ (by first | (simp; done) | (simp; omega) | omega)) | (with_reducible refine below_alloc _ ?_) | (with_reducible refine below_drewN ?_ _) | (with_reducible assumption) | (with_reducible refine below_after (by assumption) ?_))))).rd).mono ?_
            rintro e u16 ⟨rfl, k16⟩
            have m16 : Below u15.heap.size u15 u16 := below_after k16 (by (repeat (first | (with_reducible exact Below.refl _ _) | (with_reducible refine below_setCell ?_ (by first | (simp; done) | (simp; omega) | omega)) | (with_reducible refine below_alloc _ ?_) | (with_reducible refine below_drewN ?_ _) | (with_reducible assumption) | (with_reducible refine below_after (by assumption) ?_))))
            replace s0 := s0.below m16
            replace s1 := s1.below m16
            replace rw := rw.below m16
            replace hhrg := hhrg.below m16
            replace rh := rh.below m16
            replace xa0_0 := cell_step m16 xa0_0
            replace xa0_1 := cell_step m16 xa0_1
            replace xa0_2 := cell_step m16 xa0_2
            replace xa1_0 := cell_step m16 xa1_0
            replace xa1_1 := cell_step m16 xa1_1
            replace xa1_2 := cell_step m16 xa1_2
            replace xa1_3 := cell_step m16 xa1_3
            replace xa1_4 := cell_step m16 xa1_4
            replace xa1_5 := cell_step m16 xa1_5
            replace xa1_6 := cell_step m16 xa1_6
            replace xrw_0 := cell_step m16 xrw_0
            replace xrw_1 := cell_step m16 xrw_1
            replace xrw_2 := cell_step m16 xrw_2
            replace xax0_0 := cell_step m16 xax0_0
            replace xax0_1 := cell_step m16 xax0_1
            replace xax0_2 := cell_step m16 xax0_2
            replace xax1_0 := cell_step m16 xax1_0
            replace xax1_1 := cell_step m16 xax1_1
            replace xax1_2 := cell_step m16 xax1_2
            replace xax1_3 := cell_step m16 xax1_3
            replace xax1_4 := cell_step m16 xax1_4
            replace xax1_5 := cell_step m16 xax1_5
            replace xax1_6 := cell_step m16 xax1_6
            replace xrg_0 := cell_step m16 xrg_0
            replace xrg_1 := cell_step m16 xrg_1
            replace xrg_2 := cell_step m16 xrg_2
            replace xrh_0 := cell_step m16 xrh_0
            replace xrh_1 := cell_step m16 xrh_1
            replace xrh_2 := cell_step m16 xrh_2
            replace qxa0 := Nat.lt_of_lt_of_le qxa0 m16.size
            replace qxa1 := Nat.lt_of_lt_of_le qxa1 m16.size
            replace qBrw := Nat.lt_of_lt_of_le qBrw m16.size
            replace qxax0 := Nat.lt_of_lt_of_le qxax0 m16.size
            replace qxax1 := Nat.lt_of_lt_of_le qxax1 m16.size
            replace qxrg := Nat.lt_of_lt_of_le qxrg m16.size
            replace qBrh := Nat.lt_of_lt_of_le qBrh m16.size
            have z16 : u15.heap.size ≤ u16.heap.size := m16.size
            replace b := m16.mono b.size |> b.trans
            clear m16 k16
            go_wp2_with fail
            refine (HhR.out hKRu _ _ (hhrg.below (by (repeat (first | (with_reducible exact Below.refl _ _) | (with_reducible refine below_setCell ?_ (by first | (simp; done) | (simp; omega) | omega)) | (with_reducible refine below_alloc _ ?_) | (with_reducible refine below_drewN ?_ _) | (with_reducible assumption) | (with_reducible refine below_after (by assumption) ?_)))))).mono ?_
            rintro e u17 ⟨rfl, k17⟩
            have m17 : Below u16.heap.size u16 u17 := below_after k17 (by (repeat (first | (with_reducible exact Below.refl _ _) | (with_reducible refine below_setCell ?_ (by first | (simp; done) | (simp; omega) | omega)) | (with_reducible refine below_alloc _ ?_) | (with_reducible refine below_drewN ?_ _) | (with_reducible assumption) | (with_reducible refine below_after (by assumption) ?_))))
            replace s0 := s0.below m17
            replace s1 := s1.below m17
            replace rw := rw.below m17
            replace hhrg := hhrg.below m17
            replace rh := rh.below m17
            replace xa0_0 := cell_step m17 xa0_0
            replace xa0_1 := cell_step m17 xa0_1
            replace xa0_2 := cell_step m17 xa0_2
            replace xa1_0 := cell_step m17 xa1_0
            replace xa1_1 := cell_step m17 xa1_1
            replace xa1_2 := cell_step m17 xa1_2
            replace xa1_3 := cell_step m17 xa1_3
            replace xa1_4 := cell_step m17 xa1_4
            replace xa1_5 := cell_step m17 xa1_5
            replace xa1_6 := cell_step m17 xa1_6
            replace xrw_0 := cell_step m17 xrw_0
            replace xrw_1 := cell_step m17 xrw_1
            replace xrw_2 := cell_step m17 xrw_2
            replace xax0_0 := cell_step m17 xax0_0
            replace xax0_1 := cell_step m17 xax0_1
            replace xax0_2 := cell_step m17 xax0_2
            replace xax1_0 := cell_step m17 xax1_0
            replace xax1_1 := cell_step m17 xax1_1
            replace xax1_2 := cell_step m17 xax1_2
            replace xax1_3 := cell_step m17 xax1_3
            replace xax1_4 := cell_step m17 xax1_4
            replace xax1_5 := cell_step m17 xax1_5
            replace xax1_6 := cell_step m17 xax1_6
            replace xrg_0 := cell_step m17 xrg_0
            replace xrg_1 := cell_step m17 xrg_1
            replace xrg_2 := cell_step m17 xrg_2
            replace xrh_0 := cell_step m17 xrh_0
            replace xrh_1 := cell_step m17 xrh_1
            replace xrh_2 := cell_step m17 xrh_2
            replace qxa0 := Nat.lt_of_lt_of_le qxa0 m17.size
            replace qxa1 := Nat.lt_of_lt_of_le qxa1 m17.size
            replace qBrw := Nat.lt_of_lt_of_le qBrw m17.size
            replace qxax0 := Nat.lt_of_lt_of_le qxax0 m17.size
            replace qxax1 := Nat.lt_of_lt_of_le qxax1 m17.size
            replace qxrg := Nat.lt_of_lt_of_le qxrg m17.size
            replace qBrh := Nat.lt_of_lt_of_le qBrh m17.size
            have z17 : u16.heap.size ≤ u17.heap.size := m17.size
            replace b := m17.mono b.size |> b.trans
            clear m17 k17
            go_wp2
            go_ret
            exact ⟨rfl, below_after (by (repeat (first | (with_reducible exact Below.refl _ _) | (with_reducible refine below_setCell ?_ (by first | (simp; done) | (simp; omega) | omega)) | (with_reducible refine below_alloc _ ?_) | (with_reducible refine below_drewN ?_ _) | (with_reducible assumption) | (with_reducible refine below_after (by assumption) ?_)))) b⟩

end Go.Proofs.Ytogdbjalgledpaa.fnExactPutEntry
