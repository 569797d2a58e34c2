/- spec.l5PutW. Printed by mkputs.py. -/
import Derived.Test.YtkcidneefdaaiaaPutWR
import Derived.Test.YtkcidneefdaaiaaAppFlat
import Derived.Test.YtkcidneefdaaiaaHeld
import Derived.Deep.QuietTactic
import Derived.BigQuiet
namespace Go.Proofs.Ytkcidneefdaaiaa
open Go.RowKit

def PutSPost (x : WriteD) (l : List WriteD) (w : World) (e : Ending) (w' : World) : Prop := ∃ v' cells, e = .returned v' ∧ PartC Cod.write w' w.heap.size 45 v' (putW x l).length (putW x l) cells ∧ Below w.heap.size w w'
theorem partC_mono {α : Type} {c : Cod α} {w : World} {base base' : Nat} {e : TypeId} {v : Value} {n : Nat} {xs : List α} {cells : List Value} (h : PartC c w base e v n xs cells) (hb : base' ≤ base) : PartC c w base' e v n xs cells := by
  obtain ⟨fs, ho, h1, h2, h3, hm, h4, h5⟩ := h
  exact ⟨fs, ownsRow_le ho hb, h1, h2, h3, hm.mono hb, h4, h5⟩
theorem put_sp {x : WriteD} {l xs : List WriteD} {w W : World} {v : Value} {base n : Nat} {cells : List Value} (P : PartC Cod.write W base 45 v n xs cells) (hb : w.heap.size ≤ base) (he : putW x l = xs) (hn : n = xs.length) (b : Below w.heap.size w W) : PutSPost x l w (.returned v) W := by
  subst hn
  refine ⟨v, cells, rfl, ?_, b⟩
  rw [he]
  exact partC_mono P hb

set_option maxRecDepth 100000 in
set_option maxHeartbeats 12800000 in
/-- spec.l5PutW at nothing -/
theorem l5PutW_nil (x : WriteD) (hx1 : x.Key.size ≤ maxLen) (hx2 : x.Val.size ≤ maxLen) (w : World) : Calls Try.prog 41 #[.slice none 0 0, .agg #[.string x.Key, .string x.Val, .bool x.Gone]] w (PutSPost x [] w) := by
  obtain ⟨i0, hi, hz0, hz1, hz2⟩ := info_parts Try_infoI_Write
  have Hx : Hid (∀ W : World, Cod.write.rd W (lst [.string x.Key, .string x.Val, .bool x.Gone]) x []) := Lib.hid fun W => mk_write rfl hx1 rfl hx2 rfl
  obtain ⟨K, hK⟩ : ∃ K, x.Key = K := ⟨_, rfl⟩
  obtain ⟨V, hV⟩ : ∃ V, x.Val = V := ⟨_, rfl⟩
  obtain ⟨G, hG⟩ : ∃ G, x.Gone = G := ⟨_, rfl⟩
  rw [hK, hV, hG] at Hx ⊢
  clear hx1 hx2 hK hV hG
  obtain ⟨l, hl0⟩ : ∃ l : List WriteD, [] = l := ⟨_, rfl⟩
  have HE0 : Hid (putW x l = l.take 0 ++ x :: l.drop 0) := Lib.hid (by rw [← hl0]; rfl)
  have Hn : Hid (l.length = 0) := Lib.hid (by rw [← hl0]; rfl)
  have HN : Hid (∀ u : World, Rd Cod.write u (.slice none 0 0) l) := Lib.hid fun u => by rw [← hl0]; exact Rd.drop_end (fun _ => rfl) (Nat.zero_le _)
  rw [hl0]
  clear hl0
  go_enter Try.func41, Try.ntmps41
  go_wp2
  go_loopw [5] (fun i wr => i = .int .i64 0 ∧ Hid (Blk wr w.heap.size 45 #[.string K, .string V, .bool G]) ∧ Below w.heap.size w wr) (fun i _ => (intOf i).toNat)
  case atStart => exact ⟨rfl, Lib.hid (Blk.new _ _ _), below_new _ _⟩
  case round =>
    obtain ⟨rfl, HX, hb⟩ := hrel
    have X := HX.out
    clear HX
    have RD0 : ∀ u, Below w.heap.size w u → Rd Cod.write u (.slice none 0 0) (l.drop 0) := fun u b => (by rw [List.drop_zero]; exact HN.out u)
    have RT0 : ∀ u, Below w.heap.size w u → Rd Cod.write u (.slice none 0 0) (l.take 0) := fun u b => (by rw [List.take_zero]; exact Rd.drop_end (fun _ => rfl) (Nat.zero_le _))
    obtain ⟨LD, hLD⟩ : ∃ LD, l.drop 0 = LD := ⟨_, rfl⟩
    obtain ⟨LT, hLT⟩ : ∃ LT, l.take 0 = LT := ⟨_, rfl⟩
    have HE := HE0
    rw [hLD] at RD0 HE
    rw [hLT] at RT0 HE
    have hLDl : LD.length ≤ 1048575 := by rw [← hLD, List.length_drop]; have := Hn.out; omega
    have hLTl : LT.length ≤ 1048575 := by rw [← hLT, List.length_take]; have := Hn.out; omega
    have Hroom0 : Hid ((0 + LD.length) * 40 ≤ room) := Lib.hid (by unfold room; omega)
    have Hroom3 : Hid ((0 + LT.length) * 40 ≤ room) := Lib.hid (by unfold room; omega)
    have Hroom1 : Hid ((0 + LT.length + [x].length) * 40 ≤ room) := Lib.hid (by unfold room; simp only [List.length_cons, List.length_nil]; omega)
    have Hroom2 : Hid ((0 + LT.length + [x].length + LD.length) * 40 ≤ room) := Lib.hid (by unfold room; simp only [List.length_cons, List.length_nil]; omega)
    have RD := Lib.hid RD0
    have RT := Lib.hid RT0
    clear RD0 RT0 hLD hLT hLDl hLTl HE0
    go_wp2_with fail
    go_quiet (fail)
    go_wp2_with fail
    go_quiet (fail)
    go_upto_region 8 with fail
    generalize hw5 : World.drewN _ _ = w5
    have hb5 : Below w.heap.size w w5 := by rw [← hw5]; (repeat (first | (with_reducible exact Below.refl _ _) | (with_reducible refine below_setCell ?_ (by first | (simp; done) | (simp; omega) | omega)) | (with_reducible refine below_alloc _ ?_) | (with_reducible refine below_drewN ?_ _) | (with_reducible assumption) | (with_reducible refine below_after (by assumption) ?_)))
    have X5 : Blk w5 w.heap.size 45 #[.string K, .string V, .bool G] := by rw [← hw5]; exact (X.drewN _).drewN _
    clear hw5 X
    go_wp2_with (at_builtin; go_must (refine wpList_append_flat (c := Cod.write) flat_write (w5.alloc (.cells #[] 45)) rfl _ _ 24 (by rfl) w5.heap.size 45 i0 (.agg #[.string ⟨#[]⟩, .string ⟨#[]⟩, .bool false]) 40 Try.underlying24 hi hz0 hz1 hz2 rfl (by decide) (by decide) (w5.alloc (.cells #[] 45)) (.slice (some ⟨w5.heap.size, 0, none⟩) 0 0) 0 [] [] (by rfl) (part_start (made0 rfl (Nat.le_refl _))) rfl (Below.refl _ _) _ LD (by rfl) (RD.out _ (below_alloc _ hb5)) Hroom0.out (by simp) ?_))
    intro p7 c7 w7 cells7 hP7 hb7
    try simp only [Nat.zero_add, List.nil_append] at hP7
    try simp only [Nat.zero_add]
    obtain ⟨s7, hs7⟩ : ∃ s, Value.slice p7 LD.length c7 = s := ⟨_, rfl⟩
    rw [hs7] at hP7 ⊢
    have R7 : Hid (Rd Cod.write w7 s7 LD) := Lib.hid (hP7.own rfl).rd
    have k7 : Below w5.heap.size w5 w7 := (below_new _ _).trans hb7
    have hb7' : Below w.heap.size w w7 := below_after k7 hb5
    have X7 : Blk w7 w.heap.size 45 #[.string K, .string V, .bool G] := X5.below k7
    clear hP7 hb7 hs7 X5
    go_upto_region 9 with fail
    refine wp_region_d 10 (fun w' => w'.cell? ⟨w.heap.size, 0, none⟩ = some (.string K) ∧ w'.cell? ⟨w.heap.size, 1, none⟩ = some (.string V) ∧ w'.cell? ⟨w.heap.size, 2, none⟩ = some (.bool G)) (by kernel_rfl) ?_
    obtain ⟨w8, hw8⟩ : ∃ w8, w7.drew = w8 := ⟨_, rfl⟩
    have b8 : Below w7.heap.size w7 w8 := by rw [← hw8]; exact (Below.refl _ _).drew
    rw [hw8]
    have X8 : Blk w8 w.heap.size 45 #[.string K, .string V, .bool G] := X7.below b8
    have R8 : Hid (∀ u, Below w8.heap.size w8 u → Rd Cod.write u s7 LD) := Lib.hid fun u b => (R7.out.below b8).below b
    have hb8 : Below w.heap.size w w8 := below_after b8 hb7'
    have hS8 : Hid (∀ u, Below w8.heap.size w8 u → u.cell? ⟨w.heap.size, 0, none⟩ = some (.string K) ∧ u.cell? ⟨w.heap.size, 1, none⟩ = some (.string V) ∧ u.cell? ⟨w.heap.size, 2, none⟩ = some (.bool G)) := Lib.hid fun u b => ⟨(X8.below b).cell 0 rfl, (X8.below b).cell 1 rfl, (X8.below b).cell 2 rfl⟩
    have hS := hS8.out w8 (Below.refl _ _)
    have hz8 : w.heap.size ≤ w8.heap.size := hb8.size
    clear hw8 X7 R7 k7 b8 hb7' X8
    refine d_take (f := 30) (v := ?_) 1 rfl (by kernel_rfl) (fun _ _ _ h => h) (Or.inl ⟨by rfl, ?_⟩) hS ?_
    rotate_left
    · intro wx hx
      obtain ⟨x0, x1, x2⟩ := hx
      first | (go_simp; done) | (go_simp; with_reducible rfl)
    simp only [Act.put, List.setIfInBounds_toArray]
    refine d_take (f := 30) (v := ?_) 2 rfl (by kernel_rfl) (fun _ _ _ h => h) (Or.inl ⟨by rfl, ?_⟩) hS ?_
    rotate_left
    · intro wx hx
      obtain ⟨x0, x1, x2⟩ := hx
      first | (go_simp; done) | (go_simp; with_reducible rfl)
    simp only [Act.put]
    refine d_take (f := 30) (v := ?_) 3 rfl (by kernel_rfl) (fun _ _ _ h => h) (Or.inl ⟨by rfl, ?_⟩) hS ?_
    rotate_left
    · intro wx hx
      obtain ⟨x0, x1, x2⟩ := hx
      first | (go_simp; done) | (go_simp; with_reducible rfl)
    simp only [Act.put]
    refine d_take (f := 30) (v := ?_) 5 rfl (by kernel_rfl) (fun _ _ _ h => h) (Or.inl ⟨by rfl, ?_⟩) hS ?_
    rotate_left
    · intro wx hx
      obtain ⟨x0, x1, x2⟩ := hx
      first | (go_simp; done) | (go_simp; with_reducible rfl)
    simp only [Act.put]
    refine d_take (f := 30) (v := ?_) 8 rfl (by kernel_rfl) (fun _ _ _ h => h) (Or.inl ⟨by rfl, ?_⟩) hS ?_
    rotate_left
    · intro wx hx
      obtain ⟨x0, x1, x2⟩ := hx
      first | (go_simp; done) | (go_simp; with_reducible rfl)
    simp only [Act.put]
    refine d_two 0 6 (by kernel_rfl) rfl rfl (fun KK hK => ?_) (fun KK hK => ?_)
    · skip
      go_simp
      generalize hA : World.alloc _ _ = wA
      have PE : PartC Cod.write wA w8.heap.size 45 (.slice (some ⟨w8.heap.size, 0, none⟩) 0 0) 0 [] [] := by rw [← hA]; exact part_start (made0 rfl (Nat.le_refl _))
      have bwA : Below w8.heap.size w8 wA := by rw [← hA]; exact below_new _ _
      have kwA : Below w8.heap.size w8 wA := below_after bwA (Below.refl _ _)
      have hzwA : w8.heap.size ≤ wA.heap.size := kwA.size
      have hywA : w8.heap.size ≤ wA.heap.size := bwA.size
      clear hA
      refine hK.out _ _ (fun _ => hS8.out wA kwA) ?_
      clear hK KK
      try simp only [Act.put, List.setIfInBounds_toArray, List.set_cons_zero, List.set_cons_succ]
      refine d_two 4 6 (by kernel_rfl) rfl rfl (fun KK hK => ?_) (fun KK hK => ?_)
      · skip
        obtain ⟨pwB, cwB, wB, cellswB, hrun, PwB, gwB, kkwB⟩ := run_append_flat (P := Try.prog) flat_write wA 24 24 w8.heap.size 45 i0 (.agg #[.string ⟨#[]⟩, .string ⟨#[]⟩, .bool false]) 40 Try.underlying24 hi hz0 hz1 hz2 rfl (by decide) (by decide) _ 0 [] _ PE (by simp) _ LT (RT.out _ (below_after kwA hb8)) Hroom3.out (by first | exact Nat.le_refl _ | omega)
        obtain ⟨swB, hswB⟩ : ∃ s, Value.slice pwB (0 + LT.length) cwB = s := ⟨_, rfl⟩
        rw [hswB] at hrun PwB
        clear hswB
        refine step_append_eq rfl _ _ 24 rfl _ _ (by simp [Act.eval]) (by simp [Act.eval]) hrun ?_
        have kwB : Below w8.heap.size w8 wB := kwA.trans (kkwB.mono (by first | exact Nat.le_refl _ | omega))
        have hzwB : w8.heap.size ≤ wB.heap.size := kwB.size
        have hywB : wA.heap.size ≤ wB.heap.size := kkwB.size
        clear hrun
        refine hK.out _ _ (fun _ => hS8.out wB kwB) ?_
        clear hK KK
        try simp only [Act.put, List.setIfInBounds_toArray]
        refine d_step 6 (by kernel_rfl) rfl (fun KK hK => ?_)
        go_simp
        generalize hA : World.alloc _ _ = wC
        have XB : Blk wC wB.heap.size 45 #[.string K, .string V, .bool G] := by rw [← hA]; exact Blk.new _ _ _
        have bwC : Below wB.heap.size wB wC := by rw [← hA]; exact below_new _ _
        have kwC : Below w8.heap.size w8 wC := below_after bwC kwB
        have hBN : wB.heap.size < wC.heap.size := XB.lt
        have hzwC : w8.heap.size ≤ wC.heap.size := kwC.size
        clear hA
        refine hK.out _ _ (fun _ => hS8.out wC kwC) ?_
        clear hK KK
        try simp only [Act.put, List.setIfInBounds_toArray, List.set_cons_zero, List.set_cons_succ]
        have PC := PwB.below bwC
        refine d_step 7 (by kernel_rfl) rfl (fun KK hK => ?_)
        obtain ⟨pwy, cwy, wy, cellswy, hrun, Pwy, gwy, kkwy⟩ := run_append_flat (P := Try.prog) flat_write wC 24 24 w8.heap.size 45 i0 (.agg #[.string ⟨#[]⟩, .string ⟨#[]⟩, .bool false]) 40 Try.underlying24 hi hz0 hz1 hz2 rfl (by decide) (by decide) _ (0 + LT.length) ([] ++ LT) _ PC (by simp) _ [x] (rd_box XB (Hx.out _)) Hroom1.out (by first | exact Nat.le_refl _ | omega)
        obtain ⟨swy, hswy⟩ : ∃ s, Value.slice pwy ((0 + LT.length) + [x].length) cwy = s := ⟨_, rfl⟩
        rw [hswy] at hrun Pwy
        clear hswy
        refine step_append_eq rfl _ _ 24 rfl _ _ (by simp [Act.eval]) (by simp [Act.eval]) hrun ?_
        have kwy : Below w8.heap.size w8 wy := kwC.trans (kkwy.mono (by first | exact Nat.le_refl _ | omega))
        have hzwy : w8.heap.size ≤ wy.heap.size := kwy.size
        have hywy : wC.heap.size ≤ wy.heap.size := kkwy.size
        clear hrun
        refine hK.out _ _ (fun _ => hS8.out wy kwy) ?_
        clear hK KK
        try simp only [Act.put, List.setIfInBounds_toArray]
        refine d_step 9 (by kernel_rfl) rfl (fun KK hK => ?_)
        obtain ⟨pwz, cwz, wz, cellswz, hrun, Pwz, gwz, kkwz⟩ := run_append_flat (P := Try.prog) flat_write wy 24 24 w8.heap.size 45 i0 (.agg #[.string ⟨#[]⟩, .string ⟨#[]⟩, .bool false]) 40 Try.underlying24 hi hz0 hz1 hz2 rfl (by decide) (by decide) _ (0 + LT.length + [x].length) ([] ++ LT ++ [x]) _ Pwy (by simp) s7 LD (R8.out _ kwy) Hroom2.out (by first | exact Nat.le_refl _ | omega)
        obtain ⟨swz, hswz⟩ : ∃ s, Value.slice pwz ((0 + LT.length + [x].length) + LD.length) cwz = s := ⟨_, rfl⟩
        rw [hswz] at hrun Pwz
        clear hswz
        refine step_append_eq rfl _ _ 24 rfl _ _ (by simp [Act.eval]) (by simp [Act.eval]) hrun ?_
        have kwz : Below w8.heap.size w8 wz := kwy.trans (kkwz.mono (by first | exact Nat.le_refl _ | omega))
        have hzwz : w8.heap.size ≤ wz.heap.size := kwz.size
        have hywz : wy.heap.size ≤ wz.heap.size := kkwz.size
        clear hrun
        refine hK.out _ _ (fun _ => hS8.out wz kwz) ?_
        clear hK KK
        try simp only [Act.put]
        have HF : Hid (PutSPost x l w (.returned swz) wz) := Lib.hid (put_sp Pwz (by omega) (by rw [HE.out]; simp) (by simp only [List.length_append, List.length_nil]) (below_after kwz hb8))
        clear Pwz gwz kkwz Pwy gwy kkwy
        refine d_step 10 (by kernel_rfl) rfl (fun KK hK => ?_)
        go_simp
        refine hK.out _ _ (fun h => by exact absurd h (by decide)) ?_
        clear hK KK
        refine d_done (by kernel_rfl) ?_ _
        try simp only [Act.put, List.setIfInBounds_toArray, List.set_cons_zero, List.set_cons_succ]
        go_wp2
        go_ret
        exact HF.out
      · skip
        go_simp
        generalize hA : World.alloc _ _ = wB
        have XB : Blk wB wA.heap.size 45 #[.string K, .string V, .bool G] := by rw [← hA]; exact Blk.new _ _ _
        have bwB : Below wA.heap.size wA wB := by rw [← hA]; exact below_new _ _
        have kwB : Below w8.heap.size w8 wB := below_after bwB kwA
        have hBN : wA.heap.size < wB.heap.size := XB.lt
        have hzwB : w8.heap.size ≤ wB.heap.size := kwB.size
        clear hA
        refine hK.out _ _ (fun _ => hS8.out wB kwB) ?_
        clear hK KK
        try simp only [Act.put, List.setIfInBounds_toArray, List.set_cons_zero, List.set_cons_succ]
        have PE2 := PE.below bwB
        refine d_step 4 (by kernel_rfl) rfl (fun KK hK => ?_)
        obtain ⟨pwC, cwC, wC, cellswC, hrun, PwC, gwC, kkwC⟩ := run_append_flat (P := Try.prog) flat_write wB 24 24 w8.heap.size 45 i0 (.agg #[.string ⟨#[]⟩, .string ⟨#[]⟩, .bool false]) 40 Try.underlying24 hi hz0 hz1 hz2 rfl (by decide) (by decide) _ 0 [] _ PE2 (by simp) _ LT (RT.out _ (below_after kwB hb8)) Hroom3.out (by first | exact Nat.le_refl _ | omega)
        obtain ⟨swC, hswC⟩ : ∃ s, Value.slice pwC (0 + LT.length) cwC = s := ⟨_, rfl⟩
        rw [hswC] at hrun PwC
        clear hswC
        refine step_append_eq rfl _ _ 24 rfl _ _ (by simp [Act.eval]) (by simp [Act.eval]) hrun ?_
        have kwC : Below w8.heap.size w8 wC := kwB.trans (kkwC.mono (by first | exact Nat.le_refl _ | omega))
        have hzwC : w8.heap.size ≤ wC.heap.size := kwC.size
        have hywC : wB.heap.size ≤ wC.heap.size := kkwC.size
        clear hrun
        refine hK.out _ _ (fun _ => hS8.out wC kwC) ?_
        clear hK KK
        try simp only [Act.put, List.setIfInBounds_toArray]
        have hltA : w8.heap.size < wA.heap.size := (PE.choose_spec.1.lt _ rfl).2
        have gC : wB.grownBy wC (some w8.heap.size) := gwC
        replace XB := XB.grown gC (by omega)
        refine d_step 7 (by kernel_rfl) rfl (fun KK hK => ?_)
        obtain ⟨pwy, cwy, wy, cellswy, hrun, Pwy, gwy, kkwy⟩ := run_append_flat (P := Try.prog) flat_write wC 24 24 w8.heap.size 45 i0 (.agg #[.string ⟨#[]⟩, .string ⟨#[]⟩, .bool false]) 40 Try.underlying24 hi hz0 hz1 hz2 rfl (by decide) (by decide) _ (0 + LT.length) ([] ++ LT) _ PwC (by simp) _ [x] (rd_box XB (Hx.out _)) Hroom1.out (by first | exact Nat.le_refl _ | omega)
        obtain ⟨swy, hswy⟩ : ∃ s, Value.slice pwy ((0 + LT.length) + [x].length) cwy = s := ⟨_, rfl⟩
        rw [hswy] at hrun Pwy
        clear hswy
        refine step_append_eq rfl _ _ 24 rfl _ _ (by simp [Act.eval]) (by simp [Act.eval]) hrun ?_
        have kwy : Below w8.heap.size w8 wy := kwC.trans (kkwy.mono (by first | exact Nat.le_refl _ | omega))
        have hzwy : w8.heap.size ≤ wy.heap.size := kwy.size
        have hywy : wC.heap.size ≤ wy.heap.size := kkwy.size
        clear hrun
        refine hK.out _ _ (fun _ => hS8.out wy kwy) ?_
        clear hK KK
        try simp only [Act.put]
        refine d_step 9 (by kernel_rfl) rfl (fun KK hK => ?_)
        obtain ⟨pwz, cwz, wz, cellswz, hrun, Pwz, gwz, kkwz⟩ := run_append_flat (P := Try.prog) flat_write wy 24 24 w8.heap.size 45 i0 (.agg #[.string ⟨#[]⟩, .string ⟨#[]⟩, .bool false]) 40 Try.underlying24 hi hz0 hz1 hz2 rfl (by decide) (by decide) _ (0 + LT.length + [x].length) ([] ++ LT ++ [x]) _ Pwy (by simp) s7 LD (R8.out _ kwy) Hroom2.out (by first | exact Nat.le_refl _ | omega)
        obtain ⟨swz, hswz⟩ : ∃ s, Value.slice pwz ((0 + LT.length + [x].length) + LD.length) cwz = s := ⟨_, rfl⟩
        rw [hswz] at hrun Pwz
        clear hswz
        refine step_append_eq rfl _ _ 24 rfl _ _ (by simp [Act.eval]) (by simp [Act.eval]) hrun ?_
        have kwz : Below w8.heap.size w8 wz := kwy.trans (kkwz.mono (by first | exact Nat.le_refl _ | omega))
        have hzwz : w8.heap.size ≤ wz.heap.size := kwz.size
        have hywz : wy.heap.size ≤ wz.heap.size := kkwz.size
        clear hrun
        refine hK.out _ _ (fun _ => hS8.out wz kwz) ?_
        clear hK KK
        try simp only [Act.put]
        have HF : Hid (PutSPost x l w (.returned swz) wz) := Lib.hid (put_sp Pwz (by omega) (by rw [HE.out]; simp) (by simp only [List.length_append, List.length_nil]) (below_after kwz hb8))
        clear Pwz gwz kkwz Pwy gwy kkwy
        refine d_step 10 (by kernel_rfl) rfl (fun KK hK => ?_)
        go_simp
        refine hK.out _ _ (fun h => by exact absurd h (by decide)) ?_
        clear hK KK
        refine d_done (by kernel_rfl) ?_ _
        try simp only [Act.put, List.setIfInBounds_toArray, List.set_cons_zero, List.set_cons_succ]
        go_wp2
        go_ret
        exact HF.out
    · skip
      go_simp
      generalize hA : World.alloc _ _ = wA
      have XB : Blk wA w8.heap.size 45 #[.string K, .string V, .bool G] := by rw [← hA]; exact Blk.new _ _ _
      have bwA : Below w8.heap.size w8 wA := by rw [← hA]; exact below_new _ _
      have kwA : Below w8.heap.size w8 wA := below_after bwA (Below.refl _ _)
      have hBN : w8.heap.size < wA.heap.size := XB.lt
      have hzwA : w8.heap.size ≤ wA.heap.size := kwA.size
      clear hA
      refine hK.out _ _ (fun _ => hS8.out wA kwA) ?_
      clear hK KK
      try simp only [Act.put, List.setIfInBounds_toArray, List.set_cons_zero, List.set_cons_succ]
      refine d_step 0 (by kernel_rfl) rfl (fun KK hK => ?_)
      go_simp
      generalize hA : World.alloc _ _ = wB
      have PE : PartC Cod.write wB wA.heap.size 45 (.slice (some ⟨wA.heap.size, 0, none⟩) 0 0) 0 [] [] := by rw [← hA]; exact part_start (made0 rfl (Nat.le_refl _))
      have bwB : Below wA.heap.size wA wB := by rw [← hA]; exact below_new _ _
      have kwB : Below w8.heap.size w8 wB := below_after bwB kwA
      have hzwB : w8.heap.size ≤ wB.heap.size := kwB.size
      have hywB : wA.heap.size ≤ wB.heap.size := bwB.size
      clear hA
      refine hK.out _ _ (fun _ => hS8.out wB kwB) ?_
      clear hK KK
      try simp only [Act.put, List.setIfInBounds_toArray, List.set_cons_zero, List.set_cons_succ]
      have XB2 := XB.below bwB
      refine d_step 4 (by kernel_rfl) rfl (fun KK hK => ?_)
      obtain ⟨pwC, cwC, wC, cellswC, hrun, PwC, gwC, kkwC⟩ := run_append_flat (P := Try.prog) flat_write wB 24 24 wA.heap.size 45 i0 (.agg #[.string ⟨#[]⟩, .string ⟨#[]⟩, .bool false]) 40 Try.underlying24 hi hz0 hz1 hz2 rfl (by decide) (by decide) _ 0 [] _ PE (by simp) _ LT (RT.out _ (below_after kwB hb8)) Hroom3.out (by first | exact Nat.le_refl _ | omega)
      obtain ⟨swC, hswC⟩ : ∃ s, Value.slice pwC (0 + LT.length) cwC = s := ⟨_, rfl⟩
      rw [hswC] at hrun PwC
      clear hswC
      refine step_append_eq rfl _ _ 24 rfl _ _ (by simp [Act.eval]) (by simp [Act.eval]) hrun ?_
      have kwC : Below w8.heap.size w8 wC := kwB.trans (kkwC.mono (by first | exact Nat.le_refl _ | omega))
      have hzwC : w8.heap.size ≤ wC.heap.size := kwC.size
      have hywC : wB.heap.size ≤ wC.heap.size := kkwC.size
      clear hrun
      refine hK.out _ _ (fun _ => hS8.out wC kwC) ?_
      clear hK KK
      try simp only [Act.put, List.setIfInBounds_toArray]
      have gC : wB.grownBy wC (some wA.heap.size) := gwC
      replace XB := XB2.grown gC (by omega)
      refine d_step 7 (by kernel_rfl) rfl (fun KK hK => ?_)
      obtain ⟨pwy, cwy, wy, cellswy, hrun, Pwy, gwy, kkwy⟩ := run_append_flat (P := Try.prog) flat_write wC 24 24 wA.heap.size 45 i0 (.agg #[.string ⟨#[]⟩, .string ⟨#[]⟩, .bool false]) 40 Try.underlying24 hi hz0 hz1 hz2 rfl (by decide) (by decide) _ (0 + LT.length) ([] ++ LT) _ PwC (by simp) _ [x] (rd_box XB (Hx.out _)) Hroom1.out (by first | exact Nat.le_refl _ | omega)
      obtain ⟨swy, hswy⟩ : ∃ s, Value.slice pwy ((0 + LT.length) + [x].length) cwy = s := ⟨_, rfl⟩
      rw [hswy] at hrun Pwy
      clear hswy
      refine step_append_eq rfl _ _ 24 rfl _ _ (by simp [Act.eval]) (by simp [Act.eval]) hrun ?_
      have kwy : Below w8.heap.size w8 wy := kwC.trans (kkwy.mono (by first | exact Nat.le_refl _ | omega))
      have hzwy : w8.heap.size ≤ wy.heap.size := kwy.size
      have hywy : wC.heap.size ≤ wy.heap.size := kkwy.size
      clear hrun
      refine hK.out _ _ (fun _ => hS8.out wy kwy) ?_
      clear hK KK
      try simp only [Act.put]
      refine d_step 9 (by kernel_rfl) rfl (fun KK hK => ?_)
      obtain ⟨pwz, cwz, wz, cellswz, hrun, Pwz, gwz, kkwz⟩ := run_append_flat (P := Try.prog) flat_write wy 24 24 wA.heap.size 45 i0 (.agg #[.string ⟨#[]⟩, .string ⟨#[]⟩, .bool false]) 40 Try.underlying24 hi hz0 hz1 hz2 rfl (by decide) (by decide) _ (0 + LT.length + [x].length) ([] ++ LT ++ [x]) _ Pwy (by simp) s7 LD (R8.out _ kwy) Hroom2.out (by first | exact Nat.le_refl _ | omega)
      obtain ⟨swz, hswz⟩ : ∃ s, Value.slice pwz ((0 + LT.length + [x].length) + LD.length) cwz = s := ⟨_, rfl⟩
      rw [hswz] at hrun Pwz
      clear hswz
      refine step_append_eq rfl _ _ 24 rfl _ _ (by simp [Act.eval]) (by simp [Act.eval]) hrun ?_
      have kwz : Below w8.heap.size w8 wz := kwy.trans (kkwz.mono (by first | exact Nat.le_refl _ | omega))
      have hzwz : w8.heap.size ≤ wz.heap.size := kwz.size
      have hywz : wy.heap.size ≤ wz.heap.size := kkwz.size
      clear hrun
      refine hK.out _ _ (fun _ => hS8.out wz kwz) ?_
      clear hK KK
      try simp only [Act.put]
      have HF : Hid (PutSPost x l w (.returned swz) wz) := Lib.hid (put_sp Pwz (by omega) (by rw [HE.out]; simp) (by simp only [List.length_append, List.length_nil]) (below_after kwz hb8))
      clear Pwz gwz kkwz Pwy gwy kkwy
      refine d_step 10 (by kernel_rfl) rfl (fun KK hK => ?_)
      go_simp
      refine hK.out _ _ (fun h => by exact absurd h (by decide)) ?_
      clear hK KK
      refine d_done (by kernel_rfl) ?_ _
      try simp only [Act.put, List.setIfInBounds_toArray, List.set_cons_zero, List.set_cons_succ]
      go_wp2
      go_ret
      exact HF.out

set_option maxRecDepth 100000 in
set_option maxHeartbeats 25600000 in
/-- spec.l5PutW at a row -/
theorem l5PutW_row (g cap : Nat) (l : List WriteD) (x : WriteD) (cells : List Value) (base : Nat) (hs : RiseW l) (hl : l.length ≤ 1048574) (hx1 : x.Key.size ≤ maxLen) (hx2 : x.Val.size ≤ maxLen) (w : World)
    (hP : PartC Cod.write w base 45 (.slice (some ⟨g, 0, none⟩) l.length cap) l.length l cells) : Calls Try.prog 41 #[.slice (some ⟨g, 0, none⟩) l.length cap, .agg #[.string x.Key, .string x.Val, .bool x.Gone]] w (PutSPost x l w) := by
  obtain ⟨i0, hi, hz0, hz1, hz2⟩ := info_parts Try_infoI_Write
  have Hx : Hid (∀ W : World, Cod.write.rd W (lst [.string x.Key, .string x.Val, .bool x.Gone]) x []) := Lib.hid fun W => mk_write rfl hx1 rfl hx2 rfl
  obtain ⟨K, hK⟩ : ∃ K, x.Key = K := ⟨_, rfl⟩
  obtain ⟨V, hV⟩ : ∃ V, x.Val = V := ⟨_, rfl⟩
  obtain ⟨G, hG⟩ : ∃ G, x.Gone = G := ⟨_, rfl⟩
  rw [hK, hV, hG] at Hx ⊢
  have HK := Lib.hid hK
  obtain ⟨_, cur, hgb, hnc, hcm, _, _, _, _⟩ := own_some hP.choose_spec.1
  have hgl : g < w.heap.size := (Array.getElem?_eq_some_iff.1 hgb).1
  have Hat := Lib.hid (fun j (hj : j < l.length) => hP.atW rfl hj)
  obtain ⟨n, hn⟩ : ∃ n, l.length = n := ⟨_, rfl⟩
  have Hn := Lib.hid hn
  have HRL : Hid (∀ u, Below w.heap.size w u → Rd Cod.write u (.slice (some ⟨g, 0, none⟩) n cap) l) := Lib.hid fun u b => by have := (hP.own rfl).rd.below b; rwa [hn] at this
  have HroomL : Hid ((0 + l.length) * 40 ≤ room) := Lib.hid (by unfold room; omega)
  have Hs := Lib.hid hs
  rw [hn] at hl hnc ⊢
  have hnI : (n : Int) ≤ 1048574 := by omega
  have hncI : (n : Int) ≤ (cap : Int) := by omega
  have hcapI : (cap : Int) ≤ 9223372036854775807 := by unfold maxLen at hcm; omega
  clear hP hx1 hx2 hK hV hG hn hgb hs
  go_enter Try.func41, Try.ntmps41
  go_wp2
  go_loopw [5] (fun i wr => ∃ k : Nat, i = .int .i64 (k : Int) ∧ k ≤ n ∧ Hid (∀ j (h : j < l.length), k ≤ j → ltB K l[j].Key = true) ∧ Hid (Blk wr w.heap.size 45 #[.string K, .string V, .bool G]) ∧ Below w.heap.size w wr) (fun i _ => (intOf i).toNat)
  case atStart => exact ⟨n, rfl, Nat.le_refl _, Lib.hid (fun j h1 h2 => by have := Hn.out; omega), Lib.hid (Blk.new _ _ _), below_new _ _⟩
  case round =>
    obtain ⟨k, rfl, hk, Hall, HX, hb⟩ := hrel
    have X := HX.out
    have x0 := X.cell 0 (v := .string K) rfl
    have x1 := X.cell 1 (v := .string V) rfl
    have x2 := X.cell 2 (v := .bool G) rfl
    have hkI : (k : Int) ≤ (n : Int) := by omega
    have hk0' : (0 : Int) ≤ (k : Int) := by omega
    have hkc' : (k : Int) ≤ (cap : Int) := by omega
    clear HX
    by_cases hk0 : k = 0
    · have hk0I : (k : Int) ≤ 0 := by omega
      have hkN : ¬ (0 < k) := by omega
      have HE0 : Hid (putW x l = l.take k ++ x :: l.drop k) := Lib.hid (putW_none Hs.out (fun t _ h => by omega) (fun t ht h => by
        have h1 := Hall.out t ht h
        rw [HK.out]
        cases h2 : ltB l[t].Key K
        · rfl
        · have := ltB_trans h1 h2; rw [ltB_irrefl] at this; cases this) (fun ⟨h1, h2⟩ => by
        have h3 := Hall.out k h1 (Nat.le_refl _)
        rw [h2, HK.out, ltB_irrefl] at h3
        cases h3))
      clear hk0
      by_cases hkc : cap = k
      · skip
        obtain rfl : n = k := by omega
        obtain rfl : cap = n := by omega
        have RD0 : ∀ u, Below w.heap.size w u → Rd Cod.write u (.slice (some ⟨g, 0, none⟩) 0 0) (l.drop cap) := fun u b => (by rw [List.drop_of_length_le (by have := Hn.out; omega)]; exact Rd.drop_end (fun h => by cases h) (Nat.zero_le _))
        have RT0 : ∀ u, Below w.heap.size w u → Rd Cod.write u (.slice (some ⟨g, 0, none⟩) cap cap) (l.take cap) := fun u b => ((HRL.out u b).take cap (by have := Hn.out; omega))
        obtain ⟨LD, hLD⟩ : ∃ LD, l.drop cap = LD := ⟨_, rfl⟩
        obtain ⟨LT, hLT⟩ : ∃ LT, l.take cap = LT := ⟨_, rfl⟩
        have HE := HE0
        rw [hLD] at RD0 HE
        rw [hLT] at RT0 HE
        have hLDl : LD.length ≤ 1048575 := by rw [← hLD, List.length_drop]; have := Hn.out; omega
        have hLTl : LT.length ≤ 1048575 := by rw [← hLT, List.length_take]; have := Hn.out; omega
        have Hroom0 : Hid ((0 + LD.length) * 40 ≤ room) := Lib.hid (by unfold room; omega)
        have Hroom3 : Hid ((0 + LT.length) * 40 ≤ room) := Lib.hid (by unfold room; omega)
        have Hroom1 : Hid ((0 + LT.length + [x].length) * 40 ≤ room) := Lib.hid (by unfold room; simp only [List.length_cons, List.length_nil]; omega)
        have Hroom2 : Hid ((0 + LT.length + [x].length + LD.length) * 40 ≤ room) := Lib.hid (by unfold room; simp only [List.length_cons, List.length_nil]; omega)
        have RD := Lib.hid RD0
        have RT := Lib.hid RT0
        clear RD0 RT0 hLD hLT hLDl hLTl HE0
        go_wp2_with fail
        go_quiet (fail)
        go_wp2_with fail
        go_quiet (fail)
        go_upto_region 8 with fail
        generalize hw5 : World.drewN _ _ = w5
        have hb5 : Below w.heap.size w w5 := by rw [← hw5]; (repeat (first | (with_reducible exact Below.refl _ _) | (with_reducible refine below_setCell ?_ (by first | (simp; done) | (simp; omega) | omega)) | (with_reducible refine below_alloc _ ?_) | (with_reducible refine below_drewN ?_ _) | (with_reducible assumption) | (with_reducible refine below_after (by assumption) ?_)))
        have X5 : Blk w5 w.heap.size 45 #[.string K, .string V, .bool G] := by rw [← hw5]; exact (X.drewN _).drewN _
        clear hw5 X
        go_wp2_with (at_builtin; go_must (refine wpList_append_flat (c := Cod.write) flat_write (w5.alloc (.cells #[] 45)) rfl _ _ 24 (by rfl) w5.heap.size 45 i0 (.agg #[.string ⟨#[]⟩, .string ⟨#[]⟩, .bool false]) 40 Try.underlying24 hi hz0 hz1 hz2 rfl (by decide) (by decide) (w5.alloc (.cells #[] 45)) (.slice (some ⟨w5.heap.size, 0, none⟩) 0 0) 0 [] [] (by rfl) (part_start (made0 rfl (Nat.le_refl _))) rfl (Below.refl _ _) _ LD (by rfl) (RD.out _ (below_alloc _ hb5)) Hroom0.out (by simp) ?_))
        intro p7 c7 w7 cells7 hP7 hb7
        try simp only [Nat.zero_add, List.nil_append] at hP7
        try simp only [Nat.zero_add]
        obtain ⟨s7, hs7⟩ : ∃ s, Value.slice p7 LD.length c7 = s := ⟨_, rfl⟩
        rw [hs7] at hP7 ⊢
        have R7 : Hid (Rd Cod.write w7 s7 LD) := Lib.hid (hP7.own rfl).rd
        have k7 : Below w5.heap.size w5 w7 := (below_new _ _).trans hb7
        have hb7' : Below w.heap.size w w7 := below_after k7 hb5
        have X7 : Blk w7 w.heap.size 45 #[.string K, .string V, .bool G] := X5.below k7
        clear hP7 hb7 hs7 X5
        go_upto_region 9 with fail
        refine wp_region_d 10 (fun w' => w'.cell? ⟨w.heap.size, 0, none⟩ = some (.string K) ∧ w'.cell? ⟨w.heap.size, 1, none⟩ = some (.string V) ∧ w'.cell? ⟨w.heap.size, 2, none⟩ = some (.bool G)) (by kernel_rfl) ?_
        obtain ⟨w8, hw8⟩ : ∃ w8, w7.drew = w8 := ⟨_, rfl⟩
        have b8 : Below w7.heap.size w7 w8 := by rw [← hw8]; exact (Below.refl _ _).drew
        rw [hw8]
        have X8 : Blk w8 w.heap.size 45 #[.string K, .string V, .bool G] := X7.below b8
        have R8 : Hid (∀ u, Below w8.heap.size w8 u → Rd Cod.write u s7 LD) := Lib.hid fun u b => (R7.out.below b8).below b
        have hb8 : Below w.heap.size w w8 := below_after b8 hb7'
        have hS8 : Hid (∀ u, Below w8.heap.size w8 u → u.cell? ⟨w.heap.size, 0, none⟩ = some (.string K) ∧ u.cell? ⟨w.heap.size, 1, none⟩ = some (.string V) ∧ u.cell? ⟨w.heap.size, 2, none⟩ = some (.bool G)) := Lib.hid fun u b => ⟨(X8.below b).cell 0 rfl, (X8.below b).cell 1 rfl, (X8.below b).cell 2 rfl⟩
        have hS := hS8.out w8 (Below.refl _ _)
        have hz8 : w.heap.size ≤ w8.heap.size := hb8.size
        clear hw8 X7 R7 k7 b8 hb7' X8
        refine d_take (f := 30) (v := ?_) 1 rfl (by kernel_rfl) (fun _ _ _ h => h) (Or.inl ⟨by rfl, ?_⟩) hS ?_
        rotate_left
        · intro wx hx
          obtain ⟨x0, x1, x2⟩ := hx
          first | (go_simp; done) | (go_simp; with_reducible rfl)
        simp only [Act.put, List.setIfInBounds_toArray]
        refine d_take (f := 30) (v := ?_) 2 rfl (by kernel_rfl) (fun _ _ _ h => h) (Or.inl ⟨by rfl, ?_⟩) hS ?_
        rotate_left
        · intro wx hx
          obtain ⟨x0, x1, x2⟩ := hx
          first | (go_simp; done) | (go_simp; with_reducible rfl)
        simp only [Act.put]
        refine d_take (f := 30) (v := ?_) 3 rfl (by kernel_rfl) (fun _ _ _ h => h) (Or.inl ⟨by rfl, ?_⟩) hS ?_
        rotate_left
        · intro wx hx
          obtain ⟨x0, x1, x2⟩ := hx
          first | (go_simp; done) | (go_simp; with_reducible rfl)
        simp only [Act.put]
        refine d_take (f := 30) (v := ?_) 5 rfl (by kernel_rfl) (fun _ _ _ h => h) (Or.inl ⟨by rfl, ?_⟩) hS ?_
        rotate_left
        · intro wx hx
          obtain ⟨x0, x1, x2⟩ := hx
          first | (go_simp; done) | (go_simp; with_reducible rfl)
        simp only [Act.put]
        refine d_take (f := 30) (v := ?_) 8 rfl (by kernel_rfl) (fun _ _ _ h => h) (Or.inl ⟨by rfl, ?_⟩) hS ?_
        rotate_left
        · intro wx hx
          obtain ⟨x0, x1, x2⟩ := hx
          first | (go_simp; done) | (go_simp; with_reducible rfl)
        simp only [Act.put]
        refine d_two 0 6 (by kernel_rfl) rfl rfl (fun KK hK => ?_) (fun KK hK => ?_)
        · skip
          go_simp
          generalize hA : World.alloc _ _ = wA
          have PE : PartC Cod.write wA w8.heap.size 45 (.slice (some ⟨w8.heap.size, 0, none⟩) 0 0) 0 [] [] := by rw [← hA]; exact part_start (made0 rfl (Nat.le_refl _))
          have bwA : Below w8.heap.size w8 wA := by rw [← hA]; exact below_new _ _
          have kwA : Below w8.heap.size w8 wA := below_after bwA (Below.refl _ _)
          have hzwA : w8.heap.size ≤ wA.heap.size := kwA.size
          have hywA : w8.heap.size ≤ wA.heap.size := bwA.size
          clear hA
          refine hK.out _ _ (fun _ => hS8.out wA kwA) ?_
          clear hK KK
          try simp only [Act.put, List.setIfInBounds_toArray, List.set_cons_zero, List.set_cons_succ]
          refine d_two 4 6 (by kernel_rfl) rfl rfl (fun KK hK => ?_) (fun KK hK => ?_)
          · skip
            obtain ⟨pwB, cwB, wB, cellswB, hrun, PwB, gwB, kkwB⟩ := run_append_flat (P := Try.prog) flat_write wA 24 24 w8.heap.size 45 i0 (.agg #[.string ⟨#[]⟩, .string ⟨#[]⟩, .bool false]) 40 Try.underlying24 hi hz0 hz1 hz2 rfl (by decide) (by decide) _ 0 [] _ PE (by simp) _ LT (RT.out _ (below_after kwA hb8)) Hroom3.out (by first | exact Nat.le_refl _ | omega)
            obtain ⟨swB, hswB⟩ : ∃ s, Value.slice pwB (0 + LT.length) cwB = s := ⟨_, rfl⟩
            rw [hswB] at hrun PwB
            clear hswB
            refine step_append_eq rfl _ _ 24 rfl _ _ (by simp [Act.eval]) (by simp [Act.eval]) hrun ?_
            have kwB : Below w8.heap.size w8 wB := kwA.trans (kkwB.mono (by first | exact Nat.le_refl _ | omega))
            have hzwB : w8.heap.size ≤ wB.heap.size := kwB.size
            have hywB : wA.heap.size ≤ wB.heap.size := kkwB.size
            clear hrun
            refine hK.out _ _ (fun _ => hS8.out wB kwB) ?_
            clear hK KK
            try simp only [Act.put, List.setIfInBounds_toArray]
            refine d_step 6 (by kernel_rfl) rfl (fun KK hK => ?_)
            go_simp
            generalize hA : World.alloc _ _ = wC
            have XB : Blk wC wB.heap.size 45 #[.string K, .string V, .bool G] := by rw [← hA]; exact Blk.new _ _ _
            have bwC : Below wB.heap.size wB wC := by rw [← hA]; exact below_new _ _
            have kwC : Below w8.heap.size w8 wC := below_after bwC kwB
            have hBN : wB.heap.size < wC.heap.size := XB.lt
            have hzwC : w8.heap.size ≤ wC.heap.size := kwC.size
            clear hA
            refine hK.out _ _ (fun _ => hS8.out wC kwC) ?_
            clear hK KK
            try simp only [Act.put, List.setIfInBounds_toArray, List.set_cons_zero, List.set_cons_succ]
            have PC := PwB.below bwC
            refine d_step 7 (by kernel_rfl) rfl (fun KK hK => ?_)
            obtain ⟨pwy, cwy, wy, cellswy, hrun, Pwy, gwy, kkwy⟩ := run_append_flat (P := Try.prog) flat_write wC 24 24 w8.heap.size 45 i0 (.agg #[.string ⟨#[]⟩, .string ⟨#[]⟩, .bool false]) 40 Try.underlying24 hi hz0 hz1 hz2 rfl (by decide) (by decide) _ (0 + LT.length) ([] ++ LT) _ PC (by simp) _ [x] (rd_box XB (Hx.out _)) Hroom1.out (by first | exact Nat.le_refl _ | omega)
            obtain ⟨swy, hswy⟩ : ∃ s, Value.slice pwy ((0 + LT.length) + [x].length) cwy = s := ⟨_, rfl⟩
            rw [hswy] at hrun Pwy
            clear hswy
            refine step_append_eq rfl _ _ 24 rfl _ _ (by simp [Act.eval]) (by simp [Act.eval]) hrun ?_
            have kwy : Below w8.heap.size w8 wy := kwC.trans (kkwy.mono (by first | exact Nat.le_refl _ | omega))
            have hzwy : w8.heap.size ≤ wy.heap.size := kwy.size
            have hywy : wC.heap.size ≤ wy.heap.size := kkwy.size
            clear hrun
            refine hK.out _ _ (fun _ => hS8.out wy kwy) ?_
            clear hK KK
            try simp only [Act.put, List.setIfInBounds_toArray]
            refine d_step 9 (by kernel_rfl) rfl (fun KK hK => ?_)
            obtain ⟨pwz, cwz, wz, cellswz, hrun, Pwz, gwz, kkwz⟩ := run_append_flat (P := Try.prog) flat_write wy 24 24 w8.heap.size 45 i0 (.agg #[.string ⟨#[]⟩, .string ⟨#[]⟩, .bool false]) 40 Try.underlying24 hi hz0 hz1 hz2 rfl (by decide) (by decide) _ (0 + LT.length + [x].length) ([] ++ LT ++ [x]) _ Pwy (by simp) s7 LD (R8.out _ kwy) Hroom2.out (by first | exact Nat.le_refl _ | omega)
            obtain ⟨swz, hswz⟩ : ∃ s, Value.slice pwz ((0 + LT.length + [x].length) + LD.length) cwz = s := ⟨_, rfl⟩
            rw [hswz] at hrun Pwz
            clear hswz
            refine step_append_eq rfl _ _ 24 rfl _ _ (by simp [Act.eval]) (by simp [Act.eval]) hrun ?_
            have kwz : Below w8.heap.size w8 wz := kwy.trans (kkwz.mono (by first | exact Nat.le_refl _ | omega))
            have hzwz : w8.heap.size ≤ wz.heap.size := kwz.size
            have hywz : wy.heap.size ≤ wz.heap.size := kkwz.size
            clear hrun
            refine hK.out _ _ (fun _ => hS8.out wz kwz) ?_
            clear hK KK
            try simp only [Act.put]
            have HF : Hid (PutSPost x l w (.returned swz) wz) := Lib.hid (put_sp Pwz (by omega) (by rw [HE.out]; simp) (by simp only [List.length_append, List.length_nil]) (below_after kwz hb8))
            clear Pwz gwz kkwz Pwy gwy kkwy
            refine d_step 10 (by kernel_rfl) rfl (fun KK hK => ?_)
            go_simp
            refine hK.out _ _ (fun h => by exact absurd h (by decide)) ?_
            clear hK KK
            refine d_done (by kernel_rfl) ?_ _
            try simp only [Act.put, List.setIfInBounds_toArray, List.set_cons_zero, List.set_cons_succ]
            go_wp2
            go_ret
            exact HF.out
          · skip
            go_simp
            generalize hA : World.alloc _ _ = wB
            have XB : Blk wB wA.heap.size 45 #[.string K, .string V, .bool G] := by rw [← hA]; exact Blk.new _ _ _
            have bwB : Below wA.heap.size wA wB := by rw [← hA]; exact below_new _ _
            have kwB : Below w8.heap.size w8 wB := below_after bwB kwA
            have hBN : wA.heap.size < wB.heap.size := XB.lt
            have hzwB : w8.heap.size ≤ wB.heap.size := kwB.size
            clear hA
            refine hK.out _ _ (fun _ => hS8.out wB kwB) ?_
            clear hK KK
            try simp only [Act.put, List.setIfInBounds_toArray, List.set_cons_zero, List.set_cons_succ]
            have PE2 := PE.below bwB
            refine d_step 4 (by kernel_rfl) rfl (fun KK hK => ?_)
            obtain ⟨pwC, cwC, wC, cellswC, hrun, PwC, gwC, kkwC⟩ := run_append_flat (P := Try.prog) flat_write wB 24 24 w8.heap.size 45 i0 (.agg #[.string ⟨#[]⟩, .string ⟨#[]⟩, .bool false]) 40 Try.underlying24 hi hz0 hz1 hz2 rfl (by decide) (by decide) _ 0 [] _ PE2 (by simp) _ LT (RT.out _ (below_after kwB hb8)) Hroom3.out (by first | exact Nat.le_refl _ | omega)
            obtain ⟨swC, hswC⟩ : ∃ s, Value.slice pwC (0 + LT.length) cwC = s := ⟨_, rfl⟩
            rw [hswC] at hrun PwC
            clear hswC
            refine step_append_eq rfl _ _ 24 rfl _ _ (by simp [Act.eval]) (by simp [Act.eval]) hrun ?_
            have kwC : Below w8.heap.size w8 wC := kwB.trans (kkwC.mono (by first | exact Nat.le_refl _ | omega))
            have hzwC : w8.heap.size ≤ wC.heap.size := kwC.size
            have hywC : wB.heap.size ≤ wC.heap.size := kkwC.size
            clear hrun
            refine hK.out _ _ (fun _ => hS8.out wC kwC) ?_
            clear hK KK
            try simp only [Act.put, List.setIfInBounds_toArray]
            have hltA : w8.heap.size < wA.heap.size := (PE.choose_spec.1.lt _ rfl).2
            have gC : wB.grownBy wC (some w8.heap.size) := gwC
            replace XB := XB.grown gC (by omega)
            refine d_step 7 (by kernel_rfl) rfl (fun KK hK => ?_)
            obtain ⟨pwy, cwy, wy, cellswy, hrun, Pwy, gwy, kkwy⟩ := run_append_flat (P := Try.prog) flat_write wC 24 24 w8.heap.size 45 i0 (.agg #[.string ⟨#[]⟩, .string ⟨#[]⟩, .bool false]) 40 Try.underlying24 hi hz0 hz1 hz2 rfl (by decide) (by decide) _ (0 + LT.length) ([] ++ LT) _ PwC (by simp) _ [x] (rd_box XB (Hx.out _)) Hroom1.out (by first | exact Nat.le_refl _ | omega)
            obtain ⟨swy, hswy⟩ : ∃ s, Value.slice pwy ((0 + LT.length) + [x].length) cwy = s := ⟨_, rfl⟩
            rw [hswy] at hrun Pwy
            clear hswy
            refine step_append_eq rfl _ _ 24 rfl _ _ (by simp [Act.eval]) (by simp [Act.eval]) hrun ?_
            have kwy : Below w8.heap.size w8 wy := kwC.trans (kkwy.mono (by first | exact Nat.le_refl _ | omega))
            have hzwy : w8.heap.size ≤ wy.heap.size := kwy.size
            have hywy : wC.heap.size ≤ wy.heap.size := kkwy.size
            clear hrun
            refine hK.out _ _ (fun _ => hS8.out wy kwy) ?_
            clear hK KK
            try simp only [Act.put]
            refine d_step 9 (by kernel_rfl) rfl (fun KK hK => ?_)
            obtain ⟨pwz, cwz, wz, cellswz, hrun, Pwz, gwz, kkwz⟩ := run_append_flat (P := Try.prog) flat_write wy 24 24 w8.heap.size 45 i0 (.agg #[.string ⟨#[]⟩, .string ⟨#[]⟩, .bool false]) 40 Try.underlying24 hi hz0 hz1 hz2 rfl (by decide) (by decide) _ (0 + LT.length + [x].length) ([] ++ LT ++ [x]) _ Pwy (by simp) s7 LD (R8.out _ kwy) Hroom2.out (by first | exact Nat.le_refl _ | omega)
            obtain ⟨swz, hswz⟩ : ∃ s, Value.slice pwz ((0 + LT.length + [x].length) + LD.length) cwz = s := ⟨_, rfl⟩
            rw [hswz] at hrun Pwz
            clear hswz
            refine step_append_eq rfl _ _ 24 rfl _ _ (by simp [Act.eval]) (by simp [Act.eval]) hrun ?_
            have kwz : Below w8.heap.size w8 wz := kwy.trans (kkwz.mono (by first | exact Nat.le_refl _ | omega))
            have hzwz : w8.heap.size ≤ wz.heap.size := kwz.size
            have hywz : wy.heap.size ≤ wz.heap.size := kkwz.size
            clear hrun
            refine hK.out _ _ (fun _ => hS8.out wz kwz) ?_
            clear hK KK
            try simp only [Act.put]
            have HF : Hid (PutSPost x l w (.returned swz) wz) := Lib.hid (put_sp Pwz (by omega) (by rw [HE.out]; simp) (by simp only [List.length_append, List.length_nil]) (below_after kwz hb8))
            clear Pwz gwz kkwz Pwy gwy kkwy
            refine d_step 10 (by kernel_rfl) rfl (fun KK hK => ?_)
            go_simp
            refine hK.out _ _ (fun h => by exact absurd h (by decide)) ?_
            clear hK KK
            refine d_done (by kernel_rfl) ?_ _
            try simp only [Act.put, List.setIfInBounds_toArray, List.set_cons_zero, List.set_cons_succ]
            go_wp2
            go_ret
            exact HF.out
        · skip
          go_simp
          generalize hA : World.alloc _ _ = wA
          have XB : Blk wA w8.heap.size 45 #[.string K, .string V, .bool G] := by rw [← hA]; exact Blk.new _ _ _
          have bwA : Below w8.heap.size w8 wA := by rw [← hA]; exact below_new _ _
          have kwA : Below w8.heap.size w8 wA := below_after bwA (Below.refl _ _)
          have hBN : w8.heap.size < wA.heap.size := XB.lt
          have hzwA : w8.heap.size ≤ wA.heap.size := kwA.size
          clear hA
          refine hK.out _ _ (fun _ => hS8.out wA kwA) ?_
          clear hK KK
          try simp only [Act.put, List.setIfInBounds_toArray, List.set_cons_zero, List.set_cons_succ]
          refine d_step 0 (by kernel_rfl) rfl (fun KK hK => ?_)
          go_simp
          generalize hA : World.alloc _ _ = wB
          have PE : PartC Cod.write wB wA.heap.size 45 (.slice (some ⟨wA.heap.size, 0, none⟩) 0 0) 0 [] [] := by rw [← hA]; exact part_start (made0 rfl (Nat.le_refl _))
          have bwB : Below wA.heap.size wA wB := by rw [← hA]; exact below_new _ _
          have kwB : Below w8.heap.size w8 wB := below_after bwB kwA
          have hzwB : w8.heap.size ≤ wB.heap.size := kwB.size
          have hywB : wA.heap.size ≤ wB.heap.size := bwB.size
          clear hA
          refine hK.out _ _ (fun _ => hS8.out wB kwB) ?_
          clear hK KK
          try simp only [Act.put, List.setIfInBounds_toArray, List.set_cons_zero, List.set_cons_succ]
          have XB2 := XB.below bwB
          refine d_step 4 (by kernel_rfl) rfl (fun KK hK => ?_)
          obtain ⟨pwC, cwC, wC, cellswC, hrun, PwC, gwC, kkwC⟩ := run_append_flat (P := Try.prog) flat_write wB 24 24 wA.heap.size 45 i0 (.agg #[.string ⟨#[]⟩, .string ⟨#[]⟩, .bool false]) 40 Try.underlying24 hi hz0 hz1 hz2 rfl (by decide) (by decide) _ 0 [] _ PE (by simp) _ LT (RT.out _ (below_after kwB hb8)) Hroom3.out (by first | exact Nat.le_refl _ | omega)
          obtain ⟨swC, hswC⟩ : ∃ s, Value.slice pwC (0 + LT.length) cwC = s := ⟨_, rfl⟩
          rw [hswC] at hrun PwC
          clear hswC
          refine step_append_eq rfl _ _ 24 rfl _ _ (by simp [Act.eval]) (by simp [Act.eval]) hrun ?_
          have kwC : Below w8.heap.size w8 wC := kwB.trans (kkwC.mono (by first | exact Nat.le_refl _ | omega))
          have hzwC : w8.heap.size ≤ wC.heap.size := kwC.size
          have hywC : wB.heap.size ≤ wC.heap.size := kkwC.size
          clear hrun
          refine hK.out _ _ (fun _ => hS8.out wC kwC) ?_
          clear hK KK
          try simp only [Act.put, List.setIfInBounds_toArray]
          have gC : wB.grownBy wC (some wA.heap.size) := gwC
          replace XB := XB2.grown gC (by omega)
          refine d_step 7 (by kernel_rfl) rfl (fun KK hK => ?_)
          obtain ⟨pwy, cwy, wy, cellswy, hrun, Pwy, gwy, kkwy⟩ := run_append_flat (P := Try.prog) flat_write wC 24 24 wA.heap.size 45 i0 (.agg #[.string ⟨#[]⟩, .string ⟨#[]⟩, .bool false]) 40 Try.underlying24 hi hz0 hz1 hz2 rfl (by decide) (by decide) _ (0 + LT.length) ([] ++ LT) _ PwC (by simp) _ [x] (rd_box XB (Hx.out _)) Hroom1.out (by first | exact Nat.le_refl _ | omega)
          obtain ⟨swy, hswy⟩ : ∃ s, Value.slice pwy ((0 + LT.length) + [x].length) cwy = s := ⟨_, rfl⟩
          rw [hswy] at hrun Pwy
          clear hswy
          refine step_append_eq rfl _ _ 24 rfl _ _ (by simp [Act.eval]) (by simp [Act.eval]) hrun ?_
          have kwy : Below w8.heap.size w8 wy := kwC.trans (kkwy.mono (by first | exact Nat.le_refl _ | omega))
          have hzwy : w8.heap.size ≤ wy.heap.size := kwy.size
          have hywy : wC.heap.size ≤ wy.heap.size := kkwy.size
          clear hrun
          refine hK.out _ _ (fun _ => hS8.out wy kwy) ?_
          clear hK KK
          try simp only [Act.put]
          refine d_step 9 (by kernel_rfl) rfl (fun KK hK => ?_)
          obtain ⟨pwz, cwz, wz, cellswz, hrun, Pwz, gwz, kkwz⟩ := run_append_flat (P := Try.prog) flat_write wy 24 24 wA.heap.size 45 i0 (.agg #[.string ⟨#[]⟩, .string ⟨#[]⟩, .bool false]) 40 Try.underlying24 hi hz0 hz1 hz2 rfl (by decide) (by decide) _ (0 + LT.length + [x].length) ([] ++ LT ++ [x]) _ Pwy (by simp) s7 LD (R8.out _ kwy) Hroom2.out (by first | exact Nat.le_refl _ | omega)
          obtain ⟨swz, hswz⟩ : ∃ s, Value.slice pwz ((0 + LT.length + [x].length) + LD.length) cwz = s := ⟨_, rfl⟩
          rw [hswz] at hrun Pwz
          clear hswz
          refine step_append_eq rfl _ _ 24 rfl _ _ (by simp [Act.eval]) (by simp [Act.eval]) hrun ?_
          have kwz : Below w8.heap.size w8 wz := kwy.trans (kkwz.mono (by first | exact Nat.le_refl _ | omega))
          have hzwz : w8.heap.size ≤ wz.heap.size := kwz.size
          have hywz : wy.heap.size ≤ wz.heap.size := kkwz.size
          clear hrun
          refine hK.out _ _ (fun _ => hS8.out wz kwz) ?_
          clear hK KK
          try simp only [Act.put]
          have HF : Hid (PutSPost x l w (.returned swz) wz) := Lib.hid (put_sp Pwz (by omega) (by rw [HE.out]; simp) (by simp only [List.length_append, List.length_nil]) (below_after kwz hb8))
          clear Pwz gwz kkwz Pwy gwy kkwy
          refine d_step 10 (by kernel_rfl) rfl (fun KK hK => ?_)
          go_simp
          refine hK.out _ _ (fun h => by exact absurd h (by decide)) ?_
          clear hK KK
          refine d_done (by kernel_rfl) ?_ _
          try simp only [Act.put, List.setIfInBounds_toArray, List.set_cons_zero, List.set_cons_succ]
          go_wp2
          go_ret
          exact HF.out
      · skip
        have RD0 : ∀ u, Below w.heap.size w u → Rd Cod.write u (.slice (some ⟨g, k * 3, none⟩) (n - k) (cap - k)) (l.drop k) := fun u b => (by have := (HRL.out u b).dropLe k (by have := Hn.out; omega); rwa [show 0 + k * Cod.write.size = k * 3 from Nat.zero_add _] at this)
        have RT0 : ∀ u, Below w.heap.size w u → Rd Cod.write u (.slice (some ⟨g, 0, none⟩) k cap) (l.take k) := fun u b => ((HRL.out u b).take k (by have := Hn.out; omega))
        obtain ⟨LD, hLD⟩ : ∃ LD, l.drop k = LD := ⟨_, rfl⟩
        obtain ⟨LT, hLT⟩ : ∃ LT, l.take k = LT := ⟨_, rfl⟩
        have HE := HE0
        rw [hLD] at RD0 HE
        rw [hLT] at RT0 HE
        have hLDl : LD.length ≤ 1048575 := by rw [← hLD, List.length_drop]; have := Hn.out; omega
        have hLTl : LT.length ≤ 1048575 := by rw [← hLT, List.length_take]; have := Hn.out; omega
        have Hroom0 : Hid ((0 + LD.length) * 40 ≤ room) := Lib.hid (by unfold room; omega)
        have Hroom3 : Hid ((0 + LT.length) * 40 ≤ room) := Lib.hid (by unfold room; omega)
        have Hroom1 : Hid ((0 + LT.length + [x].length) * 40 ≤ room) := Lib.hid (by unfold room; simp only [List.length_cons, List.length_nil]; omega)
        have Hroom2 : Hid ((0 + LT.length + [x].length + LD.length) * 40 ≤ room) := Lib.hid (by unfold room; simp only [List.length_cons, List.length_nil]; omega)
        have RD := Lib.hid RD0
        have RT := Lib.hid RT0
        clear RD0 RT0 hLD hLT hLDl hLTl HE0
        go_wp2_with fail
        go_quiet (fail)
        go_wp2_with fail
        go_quiet (fail)
        go_upto_region 8 with fail
        generalize hw5 : World.drewN _ _ = w5
        have hb5 : Below w.heap.size w w5 := by rw [← hw5]; (repeat (first | (with_reducible exact Below.refl _ _) | (with_reducible refine below_setCell ?_ (by first | (simp; done) | (simp; omega) | omega)) | (with_reducible refine below_alloc _ ?_) | (with_reducible refine below_drewN ?_ _) | (with_reducible assumption) | (with_reducible refine below_after (by assumption) ?_)))
        have X5 : Blk w5 w.heap.size 45 #[.string K, .string V, .bool G] := by rw [← hw5]; exact (X.drewN _).drewN _
        clear hw5 X
        go_wp2_with (at_builtin; go_must (refine wpList_append_flat (c := Cod.write) flat_write (w5.alloc (.cells #[] 45)) rfl _ _ 24 (by rfl) w5.heap.size 45 i0 (.agg #[.string ⟨#[]⟩, .string ⟨#[]⟩, .bool false]) 40 Try.underlying24 hi hz0 hz1 hz2 rfl (by decide) (by decide) (w5.alloc (.cells #[] 45)) (.slice (some ⟨w5.heap.size, 0, none⟩) 0 0) 0 [] [] (by rfl) (part_start (made0 rfl (Nat.le_refl _))) rfl (Below.refl _ _) _ LD (by rfl) (RD.out _ (below_alloc _ hb5)) Hroom0.out (by simp) ?_))
        intro p7 c7 w7 cells7 hP7 hb7
        try simp only [Nat.zero_add, List.nil_append] at hP7
        try simp only [Nat.zero_add]
        obtain ⟨s7, hs7⟩ : ∃ s, Value.slice p7 LD.length c7 = s := ⟨_, rfl⟩
        rw [hs7] at hP7 ⊢
        have R7 : Hid (Rd Cod.write w7 s7 LD) := Lib.hid (hP7.own rfl).rd
        have k7 : Below w5.heap.size w5 w7 := (below_new _ _).trans hb7
        have hb7' : Below w.heap.size w w7 := below_after k7 hb5
        have X7 : Blk w7 w.heap.size 45 #[.string K, .string V, .bool G] := X5.below k7
        clear hP7 hb7 hs7 X5
        go_upto_region 9 with fail
        refine wp_region_d 10 (fun w' => w'.cell? ⟨w.heap.size, 0, none⟩ = some (.string K) ∧ w'.cell? ⟨w.heap.size, 1, none⟩ = some (.string V) ∧ w'.cell? ⟨w.heap.size, 2, none⟩ = some (.bool G)) (by kernel_rfl) ?_
        obtain ⟨w8, hw8⟩ : ∃ w8, w7.drew = w8 := ⟨_, rfl⟩
        have b8 : Below w7.heap.size w7 w8 := by rw [← hw8]; exact (Below.refl _ _).drew
        rw [hw8]
        have X8 : Blk w8 w.heap.size 45 #[.string K, .string V, .bool G] := X7.below b8
        have R8 : Hid (∀ u, Below w8.heap.size w8 u → Rd Cod.write u s7 LD) := Lib.hid fun u b => (R7.out.below b8).below b
        have hb8 : Below w.heap.size w w8 := below_after b8 hb7'
        have hS8 : Hid (∀ u, Below w8.heap.size w8 u → u.cell? ⟨w.heap.size, 0, none⟩ = some (.string K) ∧ u.cell? ⟨w.heap.size, 1, none⟩ = some (.string V) ∧ u.cell? ⟨w.heap.size, 2, none⟩ = some (.bool G)) := Lib.hid fun u b => ⟨(X8.below b).cell 0 rfl, (X8.below b).cell 1 rfl, (X8.below b).cell 2 rfl⟩
        have hS := hS8.out w8 (Below.refl _ _)
        have hz8 : w.heap.size ≤ w8.heap.size := hb8.size
        clear hw8 X7 R7 k7 b8 hb7' X8
        refine d_take (f := 30) (v := ?_) 1 rfl (by kernel_rfl) (fun _ _ _ h => h) (Or.inl ⟨by rfl, ?_⟩) hS ?_
        rotate_left
        · intro wx hx
          obtain ⟨x0, x1, x2⟩ := hx
          first | (go_simp; done) | (go_simp; with_reducible rfl)
        simp only [Act.put, List.setIfInBounds_toArray]
        refine d_take (f := 30) (v := ?_) 2 rfl (by kernel_rfl) (fun _ _ _ h => h) (Or.inl ⟨by rfl, ?_⟩) hS ?_
        rotate_left
        · intro wx hx
          obtain ⟨x0, x1, x2⟩ := hx
          first | (go_simp; done) | (go_simp; with_reducible rfl)
        simp only [Act.put]
        refine d_take (f := 30) (v := ?_) 3 rfl (by kernel_rfl) (fun _ _ _ h => h) (Or.inl ⟨by rfl, ?_⟩) hS ?_
        rotate_left
        · intro wx hx
          obtain ⟨x0, x1, x2⟩ := hx
          first | (go_simp; done) | (go_simp; with_reducible rfl)
        simp only [Act.put]
        refine d_take (f := 30) (v := ?_) 5 rfl (by kernel_rfl) (fun _ _ _ h => h) (Or.inl ⟨by rfl, ?_⟩) hS ?_
        rotate_left
        · intro wx hx
          obtain ⟨x0, x1, x2⟩ := hx
          first | (go_simp; done) | (go_simp; with_reducible rfl)
        simp only [Act.put]
        refine d_take (f := 30) (v := ?_) 8 rfl (by kernel_rfl) (fun _ _ _ h => h) (Or.inl ⟨by rfl, ?_⟩) hS ?_
        rotate_left
        · intro wx hx
          obtain ⟨x0, x1, x2⟩ := hx
          first | (go_simp; done) | (go_simp; with_reducible rfl)
        simp only [Act.put]
        refine d_two 0 6 (by kernel_rfl) rfl rfl (fun KK hK => ?_) (fun KK hK => ?_)
        · skip
          go_simp
          generalize hA : World.alloc _ _ = wA
          have PE : PartC Cod.write wA w8.heap.size 45 (.slice (some ⟨w8.heap.size, 0, none⟩) 0 0) 0 [] [] := by rw [← hA]; exact part_start (made0 rfl (Nat.le_refl _))
          have bwA : Below w8.heap.size w8 wA := by rw [← hA]; exact below_new _ _
          have kwA : Below w8.heap.size w8 wA := below_after bwA (Below.refl _ _)
          have hzwA : w8.heap.size ≤ wA.heap.size := kwA.size
          have hywA : w8.heap.size ≤ wA.heap.size := bwA.size
          clear hA
          refine hK.out _ _ (fun _ => hS8.out wA kwA) ?_
          clear hK KK
          try simp only [Act.put, List.setIfInBounds_toArray, List.set_cons_zero, List.set_cons_succ]
          refine d_two 4 6 (by kernel_rfl) rfl rfl (fun KK hK => ?_) (fun KK hK => ?_)
          · skip
            obtain ⟨pwB, cwB, wB, cellswB, hrun, PwB, gwB, kkwB⟩ := run_append_flat (P := Try.prog) flat_write wA 24 24 w8.heap.size 45 i0 (.agg #[.string ⟨#[]⟩, .string ⟨#[]⟩, .bool false]) 40 Try.underlying24 hi hz0 hz1 hz2 rfl (by decide) (by decide) _ 0 [] _ PE (by simp) _ LT (RT.out _ (below_after kwA hb8)) Hroom3.out (by first | exact Nat.le_refl _ | omega)
            obtain ⟨swB, hswB⟩ : ∃ s, Value.slice pwB (0 + LT.length) cwB = s := ⟨_, rfl⟩
            rw [hswB] at hrun PwB
            clear hswB
            refine step_append_eq rfl _ _ 24 rfl _ _ (by simp [Act.eval]) (by simp [Act.eval]) hrun ?_
            have kwB : Below w8.heap.size w8 wB := kwA.trans (kkwB.mono (by first | exact Nat.le_refl _ | omega))
            have hzwB : w8.heap.size ≤ wB.heap.size := kwB.size
            have hywB : wA.heap.size ≤ wB.heap.size := kkwB.size
            clear hrun
            refine hK.out _ _ (fun _ => hS8.out wB kwB) ?_
            clear hK KK
            try simp only [Act.put, List.setIfInBounds_toArray]
            refine d_step 6 (by kernel_rfl) rfl (fun KK hK => ?_)
            go_simp
            generalize hA : World.alloc _ _ = wC
            have XB : Blk wC wB.heap.size 45 #[.string K, .string V, .bool G] := by rw [← hA]; exact Blk.new _ _ _
            have bwC : Below wB.heap.size wB wC := by rw [← hA]; exact below_new _ _
            have kwC : Below w8.heap.size w8 wC := below_after bwC kwB
            have hBN : wB.heap.size < wC.heap.size := XB.lt
            have hzwC : w8.heap.size ≤ wC.heap.size := kwC.size
            clear hA
            refine hK.out _ _ (fun _ => hS8.out wC kwC) ?_
            clear hK KK
            try simp only [Act.put, List.setIfInBounds_toArray, List.set_cons_zero, List.set_cons_succ]
            have PC := PwB.below bwC
            refine d_step 7 (by kernel_rfl) rfl (fun KK hK => ?_)
            obtain ⟨pwy, cwy, wy, cellswy, hrun, Pwy, gwy, kkwy⟩ := run_append_flat (P := Try.prog) flat_write wC 24 24 w8.heap.size 45 i0 (.agg #[.string ⟨#[]⟩, .string ⟨#[]⟩, .bool false]) 40 Try.underlying24 hi hz0 hz1 hz2 rfl (by decide) (by decide) _ (0 + LT.length) ([] ++ LT) _ PC (by simp) _ [x] (rd_box XB (Hx.out _)) Hroom1.out (by first | exact Nat.le_refl _ | omega)
            obtain ⟨swy, hswy⟩ : ∃ s, Value.slice pwy ((0 + LT.length) + [x].length) cwy = s := ⟨_, rfl⟩
            rw [hswy] at hrun Pwy
            clear hswy
            refine step_append_eq rfl _ _ 24 rfl _ _ (by simp [Act.eval]) (by simp [Act.eval]) hrun ?_
            have kwy : Below w8.heap.size w8 wy := kwC.trans (kkwy.mono (by first | exact Nat.le_refl _ | omega))
            have hzwy : w8.heap.size ≤ wy.heap.size := kwy.size
            have hywy : wC.heap.size ≤ wy.heap.size := kkwy.size
            clear hrun
            refine hK.out _ _ (fun _ => hS8.out wy kwy) ?_
            clear hK KK
            try simp only [Act.put, List.setIfInBounds_toArray]
            refine d_step 9 (by kernel_rfl) rfl (fun KK hK => ?_)
            obtain ⟨pwz, cwz, wz, cellswz, hrun, Pwz, gwz, kkwz⟩ := run_append_flat (P := Try.prog) flat_write wy 24 24 w8.heap.size 45 i0 (.agg #[.string ⟨#[]⟩, .string ⟨#[]⟩, .bool false]) 40 Try.underlying24 hi hz0 hz1 hz2 rfl (by decide) (by decide) _ (0 + LT.length + [x].length) ([] ++ LT ++ [x]) _ Pwy (by simp) s7 LD (R8.out _ kwy) Hroom2.out (by first | exact Nat.le_refl _ | omega)
            obtain ⟨swz, hswz⟩ : ∃ s, Value.slice pwz ((0 + LT.length + [x].length) + LD.length) cwz = s := ⟨_, rfl⟩
            rw [hswz] at hrun Pwz
            clear hswz
            refine step_append_eq rfl _ _ 24 rfl _ _ (by simp [Act.eval]) (by simp [Act.eval]) hrun ?_
            have kwz : Below w8.heap.size w8 wz := kwy.trans (kkwz.mono (by first | exact Nat.le_refl _ | omega))
            have hzwz : w8.heap.size ≤ wz.heap.size := kwz.size
            have hywz : wy.heap.size ≤ wz.heap.size := kkwz.size
            clear hrun
            refine hK.out _ _ (fun _ => hS8.out wz kwz) ?_
            clear hK KK
            try simp only [Act.put]
            have HF : Hid (PutSPost x l w (.returned swz) wz) := Lib.hid (put_sp Pwz (by omega) (by rw [HE.out]; simp) (by simp only [List.length_append, List.length_nil]) (below_after kwz hb8))
            clear Pwz gwz kkwz Pwy gwy kkwy
            refine d_step 10 (by kernel_rfl) rfl (fun KK hK => ?_)
            go_simp
            refine hK.out _ _ (fun h => by exact absurd h (by decide)) ?_
            clear hK KK
            refine d_done (by kernel_rfl) ?_ _
            try simp only [Act.put, List.setIfInBounds_toArray, List.set_cons_zero, List.set_cons_succ]
            go_wp2
            go_ret
            exact HF.out
          · skip
            go_simp
            generalize hA : World.alloc _ _ = wB
            have XB : Blk wB wA.heap.size 45 #[.string K, .string V, .bool G] := by rw [← hA]; exact Blk.new _ _ _
            have bwB : Below wA.heap.size wA wB := by rw [← hA]; exact below_new _ _
            have kwB : Below w8.heap.size w8 wB := below_after bwB kwA
            have hBN : wA.heap.size < wB.heap.size := XB.lt
            have hzwB : w8.heap.size ≤ wB.heap.size := kwB.size
            clear hA
            refine hK.out _ _ (fun _ => hS8.out wB kwB) ?_
            clear hK KK
            try simp only [Act.put, List.setIfInBounds_toArray, List.set_cons_zero, List.set_cons_succ]
            have PE2 := PE.below bwB
            refine d_step 4 (by kernel_rfl) rfl (fun KK hK => ?_)
            obtain ⟨pwC, cwC, wC, cellswC, hrun, PwC, gwC, kkwC⟩ := run_append_flat (P := Try.prog) flat_write wB 24 24 w8.heap.size 45 i0 (.agg #[.string ⟨#[]⟩, .string ⟨#[]⟩, .bool false]) 40 Try.underlying24 hi hz0 hz1 hz2 rfl (by decide) (by decide) _ 0 [] _ PE2 (by simp) _ LT (RT.out _ (below_after kwB hb8)) Hroom3.out (by first | exact Nat.le_refl _ | omega)
            obtain ⟨swC, hswC⟩ : ∃ s, Value.slice pwC (0 + LT.length) cwC = s := ⟨_, rfl⟩
            rw [hswC] at hrun PwC
            clear hswC
            refine step_append_eq rfl _ _ 24 rfl _ _ (by simp [Act.eval]) (by simp [Act.eval]) hrun ?_
            have kwC : Below w8.heap.size w8 wC := kwB.trans (kkwC.mono (by first | exact Nat.le_refl _ | omega))
            have hzwC : w8.heap.size ≤ wC.heap.size := kwC.size
            have hywC : wB.heap.size ≤ wC.heap.size := kkwC.size
            clear hrun
            refine hK.out _ _ (fun _ => hS8.out wC kwC) ?_
            clear hK KK
            try simp only [Act.put, List.setIfInBounds_toArray]
            have hltA : w8.heap.size < wA.heap.size := (PE.choose_spec.1.lt _ rfl).2
            have gC : wB.grownBy wC (some w8.heap.size) := gwC
            replace XB := XB.grown gC (by omega)
            refine d_step 7 (by kernel_rfl) rfl (fun KK hK => ?_)
            obtain ⟨pwy, cwy, wy, cellswy, hrun, Pwy, gwy, kkwy⟩ := run_append_flat (P := Try.prog) flat_write wC 24 24 w8.heap.size 45 i0 (.agg #[.string ⟨#[]⟩, .string ⟨#[]⟩, .bool false]) 40 Try.underlying24 hi hz0 hz1 hz2 rfl (by decide) (by decide) _ (0 + LT.length) ([] ++ LT) _ PwC (by simp) _ [x] (rd_box XB (Hx.out _)) Hroom1.out (by first | exact Nat.le_refl _ | omega)
            obtain ⟨swy, hswy⟩ : ∃ s, Value.slice pwy ((0 + LT.length) + [x].length) cwy = s := ⟨_, rfl⟩
            rw [hswy] at hrun Pwy
            clear hswy
            refine step_append_eq rfl _ _ 24 rfl _ _ (by simp [Act.eval]) (by simp [Act.eval]) hrun ?_
            have kwy : Below w8.heap.size w8 wy := kwC.trans (kkwy.mono (by first | exact Nat.le_refl _ | omega))
            have hzwy : w8.heap.size ≤ wy.heap.size := kwy.size
            have hywy : wC.heap.size ≤ wy.heap.size := kkwy.size
            clear hrun
            refine hK.out _ _ (fun _ => hS8.out wy kwy) ?_
            clear hK KK
            try simp only [Act.put]
            refine d_step 9 (by kernel_rfl) rfl (fun KK hK => ?_)
            obtain ⟨pwz, cwz, wz, cellswz, hrun, Pwz, gwz, kkwz⟩ := run_append_flat (P := Try.prog) flat_write wy 24 24 w8.heap.size 45 i0 (.agg #[.string ⟨#[]⟩, .string ⟨#[]⟩, .bool false]) 40 Try.underlying24 hi hz0 hz1 hz2 rfl (by decide) (by decide) _ (0 + LT.length + [x].length) ([] ++ LT ++ [x]) _ Pwy (by simp) s7 LD (R8.out _ kwy) Hroom2.out (by first | exact Nat.le_refl _ | omega)
            obtain ⟨swz, hswz⟩ : ∃ s, Value.slice pwz ((0 + LT.length + [x].length) + LD.length) cwz = s := ⟨_, rfl⟩
            rw [hswz] at hrun Pwz
            clear hswz
            refine step_append_eq rfl _ _ 24 rfl _ _ (by simp [Act.eval]) (by simp [Act.eval]) hrun ?_
            have kwz : Below w8.heap.size w8 wz := kwy.trans (kkwz.mono (by first | exact Nat.le_refl _ | omega))
            have hzwz : w8.heap.size ≤ wz.heap.size := kwz.size
            have hywz : wy.heap.size ≤ wz.heap.size := kkwz.size
            clear hrun
            refine hK.out _ _ (fun _ => hS8.out wz kwz) ?_
            clear hK KK
            try simp only [Act.put]
            have HF : Hid (PutSPost x l w (.returned swz) wz) := Lib.hid (put_sp Pwz (by omega) (by rw [HE.out]; simp) (by simp only [List.length_append, List.length_nil]) (below_after kwz hb8))
            clear Pwz gwz kkwz Pwy gwy kkwy
            refine d_step 10 (by kernel_rfl) rfl (fun KK hK => ?_)
            go_simp
            refine hK.out _ _ (fun h => by exact absurd h (by decide)) ?_
            clear hK KK
            refine d_done (by kernel_rfl) ?_ _
            try simp only [Act.put, List.setIfInBounds_toArray, List.set_cons_zero, List.set_cons_succ]
            go_wp2
            go_ret
            exact HF.out
        · skip
          go_simp
          generalize hA : World.alloc _ _ = wA
          have XB : Blk wA w8.heap.size 45 #[.string K, .string V, .bool G] := by rw [← hA]; exact Blk.new _ _ _
          have bwA : Below w8.heap.size w8 wA := by rw [← hA]; exact below_new _ _
          have kwA : Below w8.heap.size w8 wA := below_after bwA (Below.refl _ _)
          have hBN : w8.heap.size < wA.heap.size := XB.lt
          have hzwA : w8.heap.size ≤ wA.heap.size := kwA.size
          clear hA
          refine hK.out _ _ (fun _ => hS8.out wA kwA) ?_
          clear hK KK
          try simp only [Act.put, List.setIfInBounds_toArray, List.set_cons_zero, List.set_cons_succ]
          refine d_step 0 (by kernel_rfl) rfl (fun KK hK => ?_)
          go_simp
          generalize hA : World.alloc _ _ = wB
          have PE : PartC Cod.write wB wA.heap.size 45 (.slice (some ⟨wA.heap.size, 0, none⟩) 0 0) 0 [] [] := by rw [← hA]; exact part_start (made0 rfl (Nat.le_refl _))
          have bwB : Below wA.heap.size wA wB := by rw [← hA]; exact below_new _ _
          have kwB : Below w8.heap.size w8 wB := below_after bwB kwA
          have hzwB : w8.heap.size ≤ wB.heap.size := kwB.size
          have hywB : wA.heap.size ≤ wB.heap.size := bwB.size
          clear hA
          refine hK.out _ _ (fun _ => hS8.out wB kwB) ?_
          clear hK KK
          try simp only [Act.put, List.setIfInBounds_toArray, List.set_cons_zero, List.set_cons_succ]
          have XB2 := XB.below bwB
          refine d_step 4 (by kernel_rfl) rfl (fun KK hK => ?_)
          obtain ⟨pwC, cwC, wC, cellswC, hrun, PwC, gwC, kkwC⟩ := run_append_flat (P := Try.prog) flat_write wB 24 24 wA.heap.size 45 i0 (.agg #[.string ⟨#[]⟩, .string ⟨#[]⟩, .bool false]) 40 Try.underlying24 hi hz0 hz1 hz2 rfl (by decide) (by decide) _ 0 [] _ PE (by simp) _ LT (RT.out _ (below_after kwB hb8)) Hroom3.out (by first | exact Nat.le_refl _ | omega)
          obtain ⟨swC, hswC⟩ : ∃ s, Value.slice pwC (0 + LT.length) cwC = s := ⟨_, rfl⟩
          rw [hswC] at hrun PwC
          clear hswC
          refine step_append_eq rfl _ _ 24 rfl _ _ (by simp [Act.eval]) (by simp [Act.eval]) hrun ?_
          have kwC : Below w8.heap.size w8 wC := kwB.trans (kkwC.mono (by first | exact Nat.le_refl _ | omega))
          have hzwC : w8.heap.size ≤ wC.heap.size := kwC.size
          have hywC : wB.heap.size ≤ wC.heap.size := kkwC.size
          clear hrun
          refine hK.out _ _ (fun _ => hS8.out wC kwC) ?_
          clear hK KK
          try simp only [Act.put, List.setIfInBounds_toArray]
          have gC : wB.grownBy wC (some wA.heap.size) := gwC
          replace XB := XB2.grown gC (by omega)
          refine d_step 7 (by kernel_rfl) rfl (fun KK hK => ?_)
          obtain ⟨pwy, cwy, wy, cellswy, hrun, Pwy, gwy, kkwy⟩ := run_append_flat (P := Try.prog) flat_write wC 24 24 wA.heap.size 45 i0 (.agg #[.string ⟨#[]⟩, .string ⟨#[]⟩, .bool false]) 40 Try.underlying24 hi hz0 hz1 hz2 rfl (by decide) (by decide) _ (0 + LT.length) ([] ++ LT) _ PwC (by simp) _ [x] (rd_box XB (Hx.out _)) Hroom1.out (by first | exact Nat.le_refl _ | omega)
          obtain ⟨swy, hswy⟩ : ∃ s, Value.slice pwy ((0 + LT.length) + [x].length) cwy = s := ⟨_, rfl⟩
          rw [hswy] at hrun Pwy
          clear hswy
          refine step_append_eq rfl _ _ 24 rfl _ _ (by simp [Act.eval]) (by simp [Act.eval]) hrun ?_
          have kwy : Below w8.heap.size w8 wy := kwC.trans (kkwy.mono (by first | exact Nat.le_refl _ | omega))
          have hzwy : w8.heap.size ≤ wy.heap.size := kwy.size
          have hywy : wC.heap.size ≤ wy.heap.size := kkwy.size
          clear hrun
          refine hK.out _ _ (fun _ => hS8.out wy kwy) ?_
          clear hK KK
          try simp only [Act.put]
          refine d_step 9 (by kernel_rfl) rfl (fun KK hK => ?_)
          obtain ⟨pwz, cwz, wz, cellswz, hrun, Pwz, gwz, kkwz⟩ := run_append_flat (P := Try.prog) flat_write wy 24 24 wA.heap.size 45 i0 (.agg #[.string ⟨#[]⟩, .string ⟨#[]⟩, .bool false]) 40 Try.underlying24 hi hz0 hz1 hz2 rfl (by decide) (by decide) _ (0 + LT.length + [x].length) ([] ++ LT ++ [x]) _ Pwy (by simp) s7 LD (R8.out _ kwy) Hroom2.out (by first | exact Nat.le_refl _ | omega)
          obtain ⟨swz, hswz⟩ : ∃ s, Value.slice pwz ((0 + LT.length + [x].length) + LD.length) cwz = s := ⟨_, rfl⟩
          rw [hswz] at hrun Pwz
          clear hswz
          refine step_append_eq rfl _ _ 24 rfl _ _ (by simp [Act.eval]) (by simp [Act.eval]) hrun ?_
          have kwz : Below w8.heap.size w8 wz := kwy.trans (kkwz.mono (by first | exact Nat.le_refl _ | omega))
          have hzwz : w8.heap.size ≤ wz.heap.size := kwz.size
          have hywz : wy.heap.size ≤ wz.heap.size := kkwz.size
          clear hrun
          refine hK.out _ _ (fun _ => hS8.out wz kwz) ?_
          clear hK KK
          try simp only [Act.put]
          have HF : Hid (PutSPost x l w (.returned swz) wz) := Lib.hid (put_sp Pwz (by omega) (by rw [HE.out]; simp) (by simp only [List.length_append, List.length_nil]) (below_after kwz hb8))
          clear Pwz gwz kkwz Pwy gwy kkwy
          refine d_step 10 (by kernel_rfl) rfl (fun KK hK => ?_)
          go_simp
          refine hK.out _ _ (fun h => by exact absurd h (by decide)) ?_
          clear hK KK
          refine d_done (by kernel_rfl) ?_ _
          try simp only [Act.put, List.setIfInBounds_toArray, List.set_cons_zero, List.set_cons_succ]
          go_wp2
          go_ret
          exact HF.out
    · obtain ⟨m, hm⟩ : ∃ m, m + 1 = k := ⟨k - 1, by omega⟩
      have hml : m < l.length := by have := Hn.out; omega
      have hd := (Hat.out m hml).1
      have d0 := (hb.cell (p := ⟨g, m * 3, none⟩) hgl).trans hd
      have hk1 : 0 < (k : Int) := by omega
      have hkN : 0 < k := by omega
      have hkm : (k : Int) - 1 = (m : Int) := by omega
      have hmn : (m : Int) < (n : Int) := by have := Hn.out; omega
      have hm0 : (0 : Int) ≤ (m : Int) := by omega
      have Hm := Lib.hid hm
      have Hnx : Hid (ltB K l[m].Key = true → ∀ j (h : j < l.length), m ≤ j → ltB K l[j].Key = true) := Lib.hid fun h j hj hmj => by
        by_cases e : j = m
        · subst e; exact h
        · exact Hall.out j hj (by omega)
      have HP1 : Hid (l[m].Key = K → putW x l = l.set m x) := Lib.hid fun e => putW_found hml (by rw [e, HK.out]) fun t ht htm => by
        have := (List.pairwise_iff_getElem.1 Hs.out) t m ht hml htm
        rw [e] at this
        rw [HK.out]
        exact this
      have HP2 : Hid (ltB K l[m].Key = false → l[m].Key ≠ K → putW x l = l.take k ++ x :: l.drop k) := Lib.hid fun h1 h2 => by
        have hlm : ltB l[m].Key K = true := lt_total h1 h2
        refine putW_none Hs.out (fun t ht htk => ?_) (fun t ht h => ?_) (fun ⟨h1, h2⟩ => ?_)
        · rw [HK.out]
          by_cases e : t = m
          · subst e; exact hlm
          · exact ltB_trans ((List.pairwise_iff_getElem.1 Hs.out) t m ht hml (by omega)) hlm
        · have h1 := Hall.out t ht h
          rw [HK.out]
          cases h2 : ltB l[t].Key K
          · rfl
          · have := ltB_trans h1 h2; rw [ltB_irrefl] at this; cases this
        · have h3 := Hall.out k h1 (Nat.le_refl _)
          rw [h2, HK.out, ltB_irrefl] at h3
          cases h3
      obtain ⟨y, es⟩ : ∃ y, l[m].Key = y := ⟨_, rfl⟩
      rw [es] at d0 Hnx HP1 HP2
      clear es hd hk0 hm
      have hle := leB_eq y K
      obtain ⟨b, hbb⟩ : ∃ b, ltB K y = b := ⟨_, rfl⟩
      rw [hbb] at Hnx HP2 hle
      clear hbb
      cases b
      · by_cases heq : y = K
        · obtain heq2 := heq.symm
          subst heq2
          have HE := Lib.hid (HP1.out rfl)
          clear HP1 HP2 Hnx hle Hall
          go_wp2_with fail
          go_quiet (fail)
          go_wp2_with fail
          go_quiet (fail)
          go_upto_region 5 with fail
          generalize hw5 : World.drewN _ _ = w5
          have hb5 : Below w.heap.size w w5 := by rw [← hw5]; (repeat (first | (with_reducible exact Below.refl _ _) | (with_reducible refine below_setCell ?_ (by first | (simp; done) | (simp; omega) | omega)) | (with_reducible refine below_alloc _ ?_) | (with_reducible refine below_drewN ?_ _) | (with_reducible assumption) | (with_reducible refine below_after (by assumption) ?_)))
          have X5 : Blk w5 w.heap.size 45 #[.string K, .string V, .bool G] := by rw [← hw5]; exact (X.drewN _).drewN _
          clear hw5 X
          go_wp2_with (at_builtin; go_must (refine wpList_append_flat (c := Cod.write) flat_write (w5.alloc (.cells #[] 45)) rfl _ _ 24 (by rfl) w5.heap.size 45 i0 (.agg #[.string ⟨#[]⟩, .string ⟨#[]⟩, .bool false]) 40 Try.underlying24 hi hz0 hz1 hz2 rfl (by decide) (by decide) (w5.alloc (.cells #[] 45)) (.slice (some ⟨w5.heap.size, 0, none⟩) 0 0) 0 [] [] (by rfl) (part_start (made0 rfl (Nat.le_refl _))) rfl (Below.refl _ _) _ l (by rfl) (HRL.out _ (below_alloc _ hb5)) HroomL.out (by simp) ?_))
          intro p7 c7 w7 cells7 hP7 hb7
          try simp only [Nat.zero_add, List.nil_append] at hP7
          try simp only [Nat.zero_add]
          rw [Hn.out] at hP7 ⊢
          obtain ⟨g7, cp7, hv7⟩ : ∃ g cp, Value.slice p7 n c7 = .slice (some ⟨g, 0, none⟩) n cp := by
            rcases own_forms hP7.choose_spec.1 with ⟨_, h2⟩ | ⟨g, cap, h1⟩
            · have := Hn.out; omega
            · exact ⟨g, cap, h1⟩
          injection hv7 with hv7 _ hc7
          subst hv7 hc7
          have k7 : Below w5.heap.size w5 w7 := (below_new _ _).trans hb7
          have hb7' : Below w.heap.size w w7 := below_after k7 hb5
          have X7 : Blk w7 w.heap.size 45 #[.string K, .string V, .bool G] := X5.below k7
          have hglt := hP7.choose_spec.1.lt g7 rfl
          have hgw : w.heap.size < g7 := by have := X5.lt; omega
          have x0 := X7.cell 0 (v := .string K) rfl
          have x1 := X7.cell 1 (v := .string V) rfl
          have x2 := X7.cell 2 (v := .bool G) rfl
          have o7 := hP7.choose_spec.1
          have hcl : cells7.length = n * 3 := o7.1
          have hmn : m < n := by have := Hn.out; omega
          have s0 : ∃ u, w7.cell? ⟨g7, m * 3, none⟩ = some u := ⟨_, by rw [o7.cellAt (m * 3) (by show m * 3 < n * 3; omega), List.getElem?_eq_getElem (by omega)]⟩
          have f0 := o7.frozenAt (g := g7) (m * 3)
          have s1 : ∃ u, w7.cell? ⟨g7, m * 3 + 1, none⟩ = some u := ⟨_, by rw [o7.cellAt (m * 3 + 1) (by show m * 3 + 1 < n * 3; omega), List.getElem?_eq_getElem (by omega)]⟩
          have f1 := o7.frozenAt (g := g7) (m * 3 + 1)
          have s2 : ∃ u, w7.cell? ⟨g7, m * 3 + 2, none⟩ = some u := ⟨_, by rw [o7.cellAt (m * 3 + 2) (by show m * 3 + 2 < n * 3; omega), List.getElem?_eq_getElem (by omega)]⟩
          have f2 := o7.frozenAt (g := g7) (m * 3 + 2)
          obtain ⟨u0, s0⟩ := s0
          obtain ⟨u1, s1⟩ := s1
          obtain ⟨u2, s2⟩ := s2
          have HF : Hid (PutSPost x l w (.returned (.slice (some ⟨g7, 0, none⟩) n c7)) (((w7.setCell ⟨g7, m * 3, none⟩ (.string K)).setCell ⟨g7, m * 3 + 1, none⟩ (.string V)).setCell ⟨g7, m * 3 + 2, none⟩ (.bool G))) := Lib.hid (by
            have h1 := hP7.setAt (i := m) (cs := [.string K, .string V, .bool G]) (x := x) hml rfl (Hx.out _)
            exact put_sp h1.1 (by have := hb5.size; omega) HE.out (by rw [List.length_set, Hn.out]) (((hb7'.setCell (by show w.heap.size ≤ g7; omega) _).setCell (by show w.heap.size ≤ g7; omega) _).setCell (by show w.heap.size ≤ g7; omega) _))
          clear hP7 hb7 X5 X7 k7 o7 hglt
          go_wp2
          go_ret
          exact HF.out
        · have h2 : (y.toList == K.toList) = false := by rw [beq_eq_false_iff_ne]; exact fun e => heq (str_eq_iff.1 e)
          have h1 : Op.bytesLess y.toList K.toList = true := by rw [h2, Bool.or_false] at hle; exact hle
          have HE0 := Lib.hid (HP2.out rfl heq)
          clear HP1 HP2 Hnx heq hle Hall hml
          by_cases hkc : cap = k
          · skip
            obtain rfl : n = k := by omega
            obtain rfl : cap = n := by omega
            have RD0 : ∀ u, Below w.heap.size w u → Rd Cod.write u (.slice (some ⟨g, 0, none⟩) 0 0) (l.drop cap) := fun u b => (by rw [List.drop_of_length_le (by have := Hn.out; omega)]; exact Rd.drop_end (fun h => by cases h) (Nat.zero_le _))
            have RT0 : ∀ u, Below w.heap.size w u → Rd Cod.write u (.slice (some ⟨g, 0, none⟩) cap cap) (l.take cap) := fun u b => ((HRL.out u b).take cap (by have := Hn.out; omega))
            obtain ⟨LD, hLD⟩ : ∃ LD, l.drop cap = LD := ⟨_, rfl⟩
            obtain ⟨LT, hLT⟩ : ∃ LT, l.take cap = LT := ⟨_, rfl⟩
            have HE := HE0
            rw [hLD] at RD0 HE
            rw [hLT] at RT0 HE
            have hLDl : LD.length ≤ 1048575 := by rw [← hLD, List.length_drop]; have := Hn.out; omega
            have hLTl : LT.length ≤ 1048575 := by rw [← hLT, List.length_take]; have := Hn.out; omega
            have Hroom0 : Hid ((0 + LD.length) * 40 ≤ room) := Lib.hid (by unfold room; omega)
            have Hroom3 : Hid ((0 + LT.length) * 40 ≤ room) := Lib.hid (by unfold room; omega)
            have Hroom1 : Hid ((0 + LT.length + [x].length) * 40 ≤ room) := Lib.hid (by unfold room; simp only [List.length_cons, List.length_nil]; omega)
            have Hroom2 : Hid ((0 + LT.length + [x].length + LD.length) * 40 ≤ room) := Lib.hid (by unfold room; simp only [List.length_cons, List.length_nil]; omega)
            have RD := Lib.hid RD0
            have RT := Lib.hid RT0
            clear RD0 RT0 hLD hLT hLDl hLTl HE0
            go_wp2_with fail
            go_quiet (fail)
            go_wp2_with fail
            go_quiet (fail)
            go_upto_region 8 with fail
            generalize hw5 : World.drewN _ _ = w5
            have hb5 : Below w.heap.size w w5 := by rw [← hw5]; (repeat (first | (with_reducible exact Below.refl _ _) | (with_reducible refine below_setCell ?_ (by first | (simp; done) | (simp; omega) | omega)) | (with_reducible refine below_alloc _ ?_) | (with_reducible refine below_drewN ?_ _) | (with_reducible assumption) | (with_reducible refine below_after (by assumption) ?_)))
            have X5 : Blk w5 w.heap.size 45 #[.string K, .string V, .bool G] := by rw [← hw5]; exact (X.drewN _).drewN _
            clear hw5 X
            go_wp2_with (at_builtin; go_must (refine wpList_append_flat (c := Cod.write) flat_write (w5.alloc (.cells #[] 45)) rfl _ _ 24 (by rfl) w5.heap.size 45 i0 (.agg #[.string ⟨#[]⟩, .string ⟨#[]⟩, .bool false]) 40 Try.underlying24 hi hz0 hz1 hz2 rfl (by decide) (by decide) (w5.alloc (.cells #[] 45)) (.slice (some ⟨w5.heap.size, 0, none⟩) 0 0) 0 [] [] (by rfl) (part_start (made0 rfl (Nat.le_refl _))) rfl (Below.refl _ _) _ LD (by rfl) (RD.out _ (below_alloc _ hb5)) Hroom0.out (by simp) ?_))
            intro p7 c7 w7 cells7 hP7 hb7
            try simp only [Nat.zero_add, List.nil_append] at hP7
            try simp only [Nat.zero_add]
            obtain ⟨s7, hs7⟩ : ∃ s, Value.slice p7 LD.length c7 = s := ⟨_, rfl⟩
            rw [hs7] at hP7 ⊢
            have R7 : Hid (Rd Cod.write w7 s7 LD) := Lib.hid (hP7.own rfl).rd
            have k7 : Below w5.heap.size w5 w7 := (below_new _ _).trans hb7
            have hb7' : Below w.heap.size w w7 := below_after k7 hb5
            have X7 : Blk w7 w.heap.size 45 #[.string K, .string V, .bool G] := X5.below k7
            clear hP7 hb7 hs7 X5
            go_upto_region 9 with fail
            refine wp_region_d 10 (fun w' => w'.cell? ⟨w.heap.size, 0, none⟩ = some (.string K) ∧ w'.cell? ⟨w.heap.size, 1, none⟩ = some (.string V) ∧ w'.cell? ⟨w.heap.size, 2, none⟩ = some (.bool G)) (by kernel_rfl) ?_
            obtain ⟨w8, hw8⟩ : ∃ w8, w7.drew = w8 := ⟨_, rfl⟩
            have b8 : Below w7.heap.size w7 w8 := by rw [← hw8]; exact (Below.refl _ _).drew
            rw [hw8]
            have X8 : Blk w8 w.heap.size 45 #[.string K, .string V, .bool G] := X7.below b8
            have R8 : Hid (∀ u, Below w8.heap.size w8 u → Rd Cod.write u s7 LD) := Lib.hid fun u b => (R7.out.below b8).below b
            have hb8 : Below w.heap.size w w8 := below_after b8 hb7'
            have hS8 : Hid (∀ u, Below w8.heap.size w8 u → u.cell? ⟨w.heap.size, 0, none⟩ = some (.string K) ∧ u.cell? ⟨w.heap.size, 1, none⟩ = some (.string V) ∧ u.cell? ⟨w.heap.size, 2, none⟩ = some (.bool G)) := Lib.hid fun u b => ⟨(X8.below b).cell 0 rfl, (X8.below b).cell 1 rfl, (X8.below b).cell 2 rfl⟩
            have hS := hS8.out w8 (Below.refl _ _)
            have hz8 : w.heap.size ≤ w8.heap.size := hb8.size
            clear hw8 X7 R7 k7 b8 hb7' X8
            refine d_take (f := 30) (v := ?_) 1 rfl (by kernel_rfl) (fun _ _ _ h => h) (Or.inl ⟨by rfl, ?_⟩) hS ?_
            rotate_left
            · intro wx hx
              obtain ⟨x0, x1, x2⟩ := hx
              first | (go_simp; done) | (go_simp; with_reducible rfl)
            simp only [Act.put, List.setIfInBounds_toArray]
            refine d_take (f := 30) (v := ?_) 2 rfl (by kernel_rfl) (fun _ _ _ h => h) (Or.inl ⟨by rfl, ?_⟩) hS ?_
            rotate_left
            · intro wx hx
              obtain ⟨x0, x1, x2⟩ := hx
              first | (go_simp; done) | (go_simp; with_reducible rfl)
            simp only [Act.put]
            refine d_take (f := 30) (v := ?_) 3 rfl (by kernel_rfl) (fun _ _ _ h => h) (Or.inl ⟨by rfl, ?_⟩) hS ?_
            rotate_left
            · intro wx hx
              obtain ⟨x0, x1, x2⟩ := hx
              first | (go_simp; done) | (go_simp; with_reducible rfl)
            simp only [Act.put]
            refine d_take (f := 30) (v := ?_) 5 rfl (by kernel_rfl) (fun _ _ _ h => h) (Or.inl ⟨by rfl, ?_⟩) hS ?_
            rotate_left
            · intro wx hx
              obtain ⟨x0, x1, x2⟩ := hx
              first | (go_simp; done) | (go_simp; with_reducible rfl)
            simp only [Act.put]
            refine d_take (f := 30) (v := ?_) 8 rfl (by kernel_rfl) (fun _ _ _ h => h) (Or.inl ⟨by rfl, ?_⟩) hS ?_
            rotate_left
            · intro wx hx
              obtain ⟨x0, x1, x2⟩ := hx
              first | (go_simp; done) | (go_simp; with_reducible rfl)
            simp only [Act.put]
            refine d_two 0 6 (by kernel_rfl) rfl rfl (fun KK hK => ?_) (fun KK hK => ?_)
            · skip
              go_simp
              generalize hA : World.alloc _ _ = wA
              have PE : PartC Cod.write wA w8.heap.size 45 (.slice (some ⟨w8.heap.size, 0, none⟩) 0 0) 0 [] [] := by rw [← hA]; exact part_start (made0 rfl (Nat.le_refl _))
              have bwA : Below w8.heap.size w8 wA := by rw [← hA]; exact below_new _ _
              have kwA : Below w8.heap.size w8 wA := below_after bwA (Below.refl _ _)
              have hzwA : w8.heap.size ≤ wA.heap.size := kwA.size
              have hywA : w8.heap.size ≤ wA.heap.size := bwA.size
              clear hA
              refine hK.out _ _ (fun _ => hS8.out wA kwA) ?_
              clear hK KK
              try simp only [Act.put, List.setIfInBounds_toArray, List.set_cons_zero, List.set_cons_succ]
              refine d_two 4 6 (by kernel_rfl) rfl rfl (fun KK hK => ?_) (fun KK hK => ?_)
              · skip
                obtain ⟨pwB, cwB, wB, cellswB, hrun, PwB, gwB, kkwB⟩ := run_append_flat (P := Try.prog) flat_write wA 24 24 w8.heap.size 45 i0 (.agg #[.string ⟨#[]⟩, .string ⟨#[]⟩, .bool false]) 40 Try.underlying24 hi hz0 hz1 hz2 rfl (by decide) (by decide) _ 0 [] _ PE (by simp) _ LT (RT.out _ (below_after kwA hb8)) Hroom3.out (by first | exact Nat.le_refl _ | omega)
                obtain ⟨swB, hswB⟩ : ∃ s, Value.slice pwB (0 + LT.length) cwB = s := ⟨_, rfl⟩
                rw [hswB] at hrun PwB
                clear hswB
                refine step_append_eq rfl _ _ 24 rfl _ _ (by simp [Act.eval]) (by simp [Act.eval]) hrun ?_
                have kwB : Below w8.heap.size w8 wB := kwA.trans (kkwB.mono (by first | exact Nat.le_refl _ | omega))
                have hzwB : w8.heap.size ≤ wB.heap.size := kwB.size
                have hywB : wA.heap.size ≤ wB.heap.size := kkwB.size
                clear hrun
                refine hK.out _ _ (fun _ => hS8.out wB kwB) ?_
                clear hK KK
                try simp only [Act.put, List.setIfInBounds_toArray]
                refine d_step 6 (by kernel_rfl) rfl (fun KK hK => ?_)
                go_simp
                generalize hA : World.alloc _ _ = wC
                have XB : Blk wC wB.heap.size 45 #[.string K, .string V, .bool G] := by rw [← hA]; exact Blk.new _ _ _
                have bwC : Below wB.heap.size wB wC := by rw [← hA]; exact below_new _ _
                have kwC : Below w8.heap.size w8 wC := below_after bwC kwB
                have hBN : wB.heap.size < wC.heap.size := XB.lt
                have hzwC : w8.heap.size ≤ wC.heap.size := kwC.size
                clear hA
                refine hK.out _ _ (fun _ => hS8.out wC kwC) ?_
                clear hK KK
                try simp only [Act.put, List.setIfInBounds_toArray, List.set_cons_zero, List.set_cons_succ]
                have PC := PwB.below bwC
                refine d_step 7 (by kernel_rfl) rfl (fun KK hK => ?_)
                obtain ⟨pwy, cwy, wy, cellswy, hrun, Pwy, gwy, kkwy⟩ := run_append_flat (P := Try.prog) flat_write wC 24 24 w8.heap.size 45 i0 (.agg #[.string ⟨#[]⟩, .string ⟨#[]⟩, .bool false]) 40 Try.underlying24 hi hz0 hz1 hz2 rfl (by decide) (by decide) _ (0 + LT.length) ([] ++ LT) _ PC (by simp) _ [x] (rd_box XB (Hx.out _)) Hroom1.out (by first | exact Nat.le_refl _ | omega)
                obtain ⟨swy, hswy⟩ : ∃ s, Value.slice pwy ((0 + LT.length) + [x].length) cwy = s := ⟨_, rfl⟩
                rw [hswy] at hrun Pwy
                clear hswy
                refine step_append_eq rfl _ _ 24 rfl _ _ (by simp [Act.eval]) (by simp [Act.eval]) hrun ?_
                have kwy : Below w8.heap.size w8 wy := kwC.trans (kkwy.mono (by first | exact Nat.le_refl _ | omega))
                have hzwy : w8.heap.size ≤ wy.heap.size := kwy.size
                have hywy : wC.heap.size ≤ wy.heap.size := kkwy.size
                clear hrun
                refine hK.out _ _ (fun _ => hS8.out wy kwy) ?_
                clear hK KK
                try simp only [Act.put, List.setIfInBounds_toArray]
                refine d_step 9 (by kernel_rfl) rfl (fun KK hK => ?_)
                obtain ⟨pwz, cwz, wz, cellswz, hrun, Pwz, gwz, kkwz⟩ := run_append_flat (P := Try.prog) flat_write wy 24 24 w8.heap.size 45 i0 (.agg #[.string ⟨#[]⟩, .string ⟨#[]⟩, .bool false]) 40 Try.underlying24 hi hz0 hz1 hz2 rfl (by decide) (by decide) _ (0 + LT.length + [x].length) ([] ++ LT ++ [x]) _ Pwy (by simp) s7 LD (R8.out _ kwy) Hroom2.out (by first | exact Nat.le_refl _ | omega)
                obtain ⟨swz, hswz⟩ : ∃ s, Value.slice pwz ((0 + LT.length + [x].length) + LD.length) cwz = s := ⟨_, rfl⟩
                rw [hswz] at hrun Pwz
                clear hswz
                refine step_append_eq rfl _ _ 24 rfl _ _ (by simp [Act.eval]) (by simp [Act.eval]) hrun ?_
                have kwz : Below w8.heap.size w8 wz := kwy.trans (kkwz.mono (by first | exact Nat.le_refl _ | omega))
                have hzwz : w8.heap.size ≤ wz.heap.size := kwz.size
                have hywz : wy.heap.size ≤ wz.heap.size := kkwz.size
                clear hrun
                refine hK.out _ _ (fun _ => hS8.out wz kwz) ?_
                clear hK KK
                try simp only [Act.put]
                have HF : Hid (PutSPost x l w (.returned swz) wz) := Lib.hid (put_sp Pwz (by omega) (by rw [HE.out]; simp) (by simp only [List.length_append, List.length_nil]) (below_after kwz hb8))
                clear Pwz gwz kkwz Pwy gwy kkwy
                refine d_step 10 (by kernel_rfl) rfl (fun KK hK => ?_)
                go_simp
                refine hK.out _ _ (fun h => by exact absurd h (by decide)) ?_
                clear hK KK
                refine d_done (by kernel_rfl) ?_ _
                try simp only [Act.put, List.setIfInBounds_toArray, List.set_cons_zero, List.set_cons_succ]
                go_wp2
                go_ret
                exact HF.out
              · skip
                go_simp
                generalize hA : World.alloc _ _ = wB
                have XB : Blk wB wA.heap.size 45 #[.string K, .string V, .bool G] := by rw [← hA]; exact Blk.new _ _ _
                have bwB : Below wA.heap.size wA wB := by rw [← hA]; exact below_new _ _
                have kwB : Below w8.heap.size w8 wB := below_after bwB kwA
                have hBN : wA.heap.size < wB.heap.size := XB.lt
                have hzwB : w8.heap.size ≤ wB.heap.size := kwB.size
                clear hA
                refine hK.out _ _ (fun _ => hS8.out wB kwB) ?_
                clear hK KK
                try simp only [Act.put, List.setIfInBounds_toArray, List.set_cons_zero, List.set_cons_succ]
                have PE2 := PE.below bwB
                refine d_step 4 (by kernel_rfl) rfl (fun KK hK => ?_)
                obtain ⟨pwC, cwC, wC, cellswC, hrun, PwC, gwC, kkwC⟩ := run_append_flat (P := Try.prog) flat_write wB 24 24 w8.heap.size 45 i0 (.agg #[.string ⟨#[]⟩, .string ⟨#[]⟩, .bool false]) 40 Try.underlying24 hi hz0 hz1 hz2 rfl (by decide) (by decide) _ 0 [] _ PE2 (by simp) _ LT (RT.out _ (below_after kwB hb8)) Hroom3.out (by first | exact Nat.le_refl _ | omega)
                obtain ⟨swC, hswC⟩ : ∃ s, Value.slice pwC (0 + LT.length) cwC = s := ⟨_, rfl⟩
                rw [hswC] at hrun PwC
                clear hswC
                refine step_append_eq rfl _ _ 24 rfl _ _ (by simp [Act.eval]) (by simp [Act.eval]) hrun ?_
                have kwC : Below w8.heap.size w8 wC := kwB.trans (kkwC.mono (by first | exact Nat.le_refl _ | omega))
                have hzwC : w8.heap.size ≤ wC.heap.size := kwC.size
                have hywC : wB.heap.size ≤ wC.heap.size := kkwC.size
                clear hrun
                refine hK.out _ _ (fun _ => hS8.out wC kwC) ?_
                clear hK KK
                try simp only [Act.put, List.setIfInBounds_toArray]
                have hltA : w8.heap.size < wA.heap.size := (PE.choose_spec.1.lt _ rfl).2
                have gC : wB.grownBy wC (some w8.heap.size) := gwC
                replace XB := XB.grown gC (by omega)
                refine d_step 7 (by kernel_rfl) rfl (fun KK hK => ?_)
                obtain ⟨pwy, cwy, wy, cellswy, hrun, Pwy, gwy, kkwy⟩ := run_append_flat (P := Try.prog) flat_write wC 24 24 w8.heap.size 45 i0 (.agg #[.string ⟨#[]⟩, .string ⟨#[]⟩, .bool false]) 40 Try.underlying24 hi hz0 hz1 hz2 rfl (by decide) (by decide) _ (0 + LT.length) ([] ++ LT) _ PwC (by simp) _ [x] (rd_box XB (Hx.out _)) Hroom1.out (by first | exact Nat.le_refl _ | omega)
                obtain ⟨swy, hswy⟩ : ∃ s, Value.slice pwy ((0 + LT.length) + [x].length) cwy = s := ⟨_, rfl⟩
                rw [hswy] at hrun Pwy
                clear hswy
                refine step_append_eq rfl _ _ 24 rfl _ _ (by simp [Act.eval]) (by simp [Act.eval]) hrun ?_
                have kwy : Below w8.heap.size w8 wy := kwC.trans (kkwy.mono (by first | exact Nat.le_refl _ | omega))
                have hzwy : w8.heap.size ≤ wy.heap.size := kwy.size
                have hywy : wC.heap.size ≤ wy.heap.size := kkwy.size
                clear hrun
                refine hK.out _ _ (fun _ => hS8.out wy kwy) ?_
                clear hK KK
                try simp only [Act.put]
                refine d_step 9 (by kernel_rfl) rfl (fun KK hK => ?_)
                obtain ⟨pwz, cwz, wz, cellswz, hrun, Pwz, gwz, kkwz⟩ := run_append_flat (P := Try.prog) flat_write wy 24 24 w8.heap.size 45 i0 (.agg #[.string ⟨#[]⟩, .string ⟨#[]⟩, .bool false]) 40 Try.underlying24 hi hz0 hz1 hz2 rfl (by decide) (by decide) _ (0 + LT.length + [x].length) ([] ++ LT ++ [x]) _ Pwy (by simp) s7 LD (R8.out _ kwy) Hroom2.out (by first | exact Nat.le_refl _ | omega)
                obtain ⟨swz, hswz⟩ : ∃ s, Value.slice pwz ((0 + LT.length + [x].length) + LD.length) cwz = s := ⟨_, rfl⟩
                rw [hswz] at hrun Pwz
                clear hswz
                refine step_append_eq rfl _ _ 24 rfl _ _ (by simp [Act.eval]) (by simp [Act.eval]) hrun ?_
                have kwz : Below w8.heap.size w8 wz := kwy.trans (kkwz.mono (by first | exact Nat.le_refl _ | omega))
                have hzwz : w8.heap.size ≤ wz.heap.size := kwz.size
                have hywz : wy.heap.size ≤ wz.heap.size := kkwz.size
                clear hrun
                refine hK.out _ _ (fun _ => hS8.out wz kwz) ?_
                clear hK KK
                try simp only [Act.put]
                have HF : Hid (PutSPost x l w (.returned swz) wz) := Lib.hid (put_sp Pwz (by omega) (by rw [HE.out]; simp) (by simp only [List.length_append, List.length_nil]) (below_after kwz hb8))
                clear Pwz gwz kkwz Pwy gwy kkwy
                refine d_step 10 (by kernel_rfl) rfl (fun KK hK => ?_)
                go_simp
                refine hK.out _ _ (fun h => by exact absurd h (by decide)) ?_
                clear hK KK
                refine d_done (by kernel_rfl) ?_ _
                try simp only [Act.put, List.setIfInBounds_toArray, List.set_cons_zero, List.set_cons_succ]
                go_wp2
                go_ret
                exact HF.out
            · skip
              go_simp
              generalize hA : World.alloc _ _ = wA
              have XB : Blk wA w8.heap.size 45 #[.string K, .string V, .bool G] := by rw [← hA]; exact Blk.new _ _ _
              have bwA : Below w8.heap.size w8 wA := by rw [← hA]; exact below_new _ _
              have kwA : Below w8.heap.size w8 wA := below_after bwA (Below.refl _ _)
              have hBN : w8.heap.size < wA.heap.size := XB.lt
              have hzwA : w8.heap.size ≤ wA.heap.size := kwA.size
              clear hA
              refine hK.out _ _ (fun _ => hS8.out wA kwA) ?_
              clear hK KK
              try simp only [Act.put, List.setIfInBounds_toArray, List.set_cons_zero, List.set_cons_succ]
              refine d_step 0 (by kernel_rfl) rfl (fun KK hK => ?_)
              go_simp
              generalize hA : World.alloc _ _ = wB
              have PE : PartC Cod.write wB wA.heap.size 45 (.slice (some ⟨wA.heap.size, 0, none⟩) 0 0) 0 [] [] := by rw [← hA]; exact part_start (made0 rfl (Nat.le_refl _))
              have bwB : Below wA.heap.size wA wB := by rw [← hA]; exact below_new _ _
              have kwB : Below w8.heap.size w8 wB := below_after bwB kwA
              have hzwB : w8.heap.size ≤ wB.heap.size := kwB.size
              have hywB : wA.heap.size ≤ wB.heap.size := bwB.size
              clear hA
              refine hK.out _ _ (fun _ => hS8.out wB kwB) ?_
              clear hK KK
              try simp only [Act.put, List.setIfInBounds_toArray, List.set_cons_zero, List.set_cons_succ]
              have XB2 := XB.below bwB
              refine d_step 4 (by kernel_rfl) rfl (fun KK hK => ?_)
              obtain ⟨pwC, cwC, wC, cellswC, hrun, PwC, gwC, kkwC⟩ := run_append_flat (P := Try.prog) flat_write wB 24 24 wA.heap.size 45 i0 (.agg #[.string ⟨#[]⟩, .string ⟨#[]⟩, .bool false]) 40 Try.underlying24 hi hz0 hz1 hz2 rfl (by decide) (by decide) _ 0 [] _ PE (by simp) _ LT (RT.out _ (below_after kwB hb8)) Hroom3.out (by first | exact Nat.le_refl _ | omega)
              obtain ⟨swC, hswC⟩ : ∃ s, Value.slice pwC (0 + LT.length) cwC = s := ⟨_, rfl⟩
              rw [hswC] at hrun PwC
              clear hswC
              refine step_append_eq rfl _ _ 24 rfl _ _ (by simp [Act.eval]) (by simp [Act.eval]) hrun ?_
              have kwC : Below w8.heap.size w8 wC := kwB.trans (kkwC.mono (by first | exact Nat.le_refl _ | omega))
              have hzwC : w8.heap.size ≤ wC.heap.size := kwC.size
              have hywC : wB.heap.size ≤ wC.heap.size := kkwC.size
              clear hrun
              refine hK.out _ _ (fun _ => hS8.out wC kwC) ?_
              clear hK KK
              try simp only [Act.put, List.setIfInBounds_toArray]
              have gC : wB.grownBy wC (some wA.heap.size) := gwC
              replace XB := XB2.grown gC (by omega)
              refine d_step 7 (by kernel_rfl) rfl (fun KK hK => ?_)
              obtain ⟨pwy, cwy, wy, cellswy, hrun, Pwy, gwy, kkwy⟩ := run_append_flat (P := Try.prog) flat_write wC 24 24 wA.heap.size 45 i0 (.agg #[.string ⟨#[]⟩, .string ⟨#[]⟩, .bool false]) 40 Try.underlying24 hi hz0 hz1 hz2 rfl (by decide) (by decide) _ (0 + LT.length) ([] ++ LT) _ PwC (by simp) _ [x] (rd_box XB (Hx.out _)) Hroom1.out (by first | exact Nat.le_refl _ | omega)
              obtain ⟨swy, hswy⟩ : ∃ s, Value.slice pwy ((0 + LT.length) + [x].length) cwy = s := ⟨_, rfl⟩
              rw [hswy] at hrun Pwy
              clear hswy
              refine step_append_eq rfl _ _ 24 rfl _ _ (by simp [Act.eval]) (by simp [Act.eval]) hrun ?_
              have kwy : Below w8.heap.size w8 wy := kwC.trans (kkwy.mono (by first | exact Nat.le_refl _ | omega))
              have hzwy : w8.heap.size ≤ wy.heap.size := kwy.size
              have hywy : wC.heap.size ≤ wy.heap.size := kkwy.size
              clear hrun
              refine hK.out _ _ (fun _ => hS8.out wy kwy) ?_
              clear hK KK
              try simp only [Act.put]
              refine d_step 9 (by kernel_rfl) rfl (fun KK hK => ?_)
              obtain ⟨pwz, cwz, wz, cellswz, hrun, Pwz, gwz, kkwz⟩ := run_append_flat (P := Try.prog) flat_write wy 24 24 wA.heap.size 45 i0 (.agg #[.string ⟨#[]⟩, .string ⟨#[]⟩, .bool false]) 40 Try.underlying24 hi hz0 hz1 hz2 rfl (by decide) (by decide) _ (0 + LT.length + [x].length) ([] ++ LT ++ [x]) _ Pwy (by simp) s7 LD (R8.out _ kwy) Hroom2.out (by first | exact Nat.le_refl _ | omega)
              obtain ⟨swz, hswz⟩ : ∃ s, Value.slice pwz ((0 + LT.length + [x].length) + LD.length) cwz = s := ⟨_, rfl⟩
              rw [hswz] at hrun Pwz
              clear hswz
              refine step_append_eq rfl _ _ 24 rfl _ _ (by simp [Act.eval]) (by simp [Act.eval]) hrun ?_
              have kwz : Below w8.heap.size w8 wz := kwy.trans (kkwz.mono (by first | exact Nat.le_refl _ | omega))
              have hzwz : w8.heap.size ≤ wz.heap.size := kwz.size
              have hywz : wy.heap.size ≤ wz.heap.size := kkwz.size
              clear hrun
              refine hK.out _ _ (fun _ => hS8.out wz kwz) ?_
              clear hK KK
              try simp only [Act.put]
              have HF : Hid (PutSPost x l w (.returned swz) wz) := Lib.hid (put_sp Pwz (by omega) (by rw [HE.out]; simp) (by simp only [List.length_append, List.length_nil]) (below_after kwz hb8))
              clear Pwz gwz kkwz Pwy gwy kkwy
              refine d_step 10 (by kernel_rfl) rfl (fun KK hK => ?_)
              go_simp
              refine hK.out _ _ (fun h => by exact absurd h (by decide)) ?_
              clear hK KK
              refine d_done (by kernel_rfl) ?_ _
              try simp only [Act.put, List.setIfInBounds_toArray, List.set_cons_zero, List.set_cons_succ]
              go_wp2
              go_ret
              exact HF.out
          · skip
            have RD0 : ∀ u, Below w.heap.size w u → Rd Cod.write u (.slice (some ⟨g, k * 3, none⟩) (n - k) (cap - k)) (l.drop k) := fun u b => (by have := (HRL.out u b).dropLe k (by have := Hn.out; omega); rwa [show 0 + k * Cod.write.size = k * 3 from Nat.zero_add _] at this)
            have RT0 : ∀ u, Below w.heap.size w u → Rd Cod.write u (.slice (some ⟨g, 0, none⟩) k cap) (l.take k) := fun u b => ((HRL.out u b).take k (by have := Hn.out; omega))
            obtain ⟨LD, hLD⟩ : ∃ LD, l.drop k = LD := ⟨_, rfl⟩
            obtain ⟨LT, hLT⟩ : ∃ LT, l.take k = LT := ⟨_, rfl⟩
            have HE := HE0
            rw [hLD] at RD0 HE
            rw [hLT] at RT0 HE
            have hLDl : LD.length ≤ 1048575 := by rw [← hLD, List.length_drop]; have := Hn.out; omega
            have hLTl : LT.length ≤ 1048575 := by rw [← hLT, List.length_take]; have := Hn.out; omega
            have Hroom0 : Hid ((0 + LD.length) * 40 ≤ room) := Lib.hid (by unfold room; omega)
            have Hroom3 : Hid ((0 + LT.length) * 40 ≤ room) := Lib.hid (by unfold room; omega)
            have Hroom1 : Hid ((0 + LT.length + [x].length) * 40 ≤ room) := Lib.hid (by unfold room; simp only [List.length_cons, List.length_nil]; omega)
            have Hroom2 : Hid ((0 + LT.length + [x].length + LD.length) * 40 ≤ room) := Lib.hid (by unfold room; simp only [List.length_cons, List.length_nil]; omega)
            have RD := Lib.hid RD0
            have RT := Lib.hid RT0
            clear RD0 RT0 hLD hLT hLDl hLTl HE0
            go_wp2_with fail
            go_quiet (fail)
            go_wp2_with fail
            go_quiet (fail)
            go_upto_region 8 with fail
            generalize hw5 : World.drewN _ _ = w5
            have hb5 : Below w.heap.size w w5 := by rw [← hw5]; (repeat (first | (with_reducible exact Below.refl _ _) | (with_reducible refine below_setCell ?_ (by first | (simp; done) | (simp; omega) | omega)) | (with_reducible refine below_alloc _ ?_) | (with_reducible refine below_drewN ?_ _) | (with_reducible assumption) | (with_reducible refine below_after (by assumption) ?_)))
            have X5 : Blk w5 w.heap.size 45 #[.string K, .string V, .bool G] := by rw [← hw5]; exact (X.drewN _).drewN _
            clear hw5 X
            go_wp2_with (at_builtin; go_must (refine wpList_append_flat (c := Cod.write) flat_write (w5.alloc (.cells #[] 45)) rfl _ _ 24 (by rfl) w5.heap.size 45 i0 (.agg #[.string ⟨#[]⟩, .string ⟨#[]⟩, .bool false]) 40 Try.underlying24 hi hz0 hz1 hz2 rfl (by decide) (by decide) (w5.alloc (.cells #[] 45)) (.slice (some ⟨w5.heap.size, 0, none⟩) 0 0) 0 [] [] (by rfl) (part_start (made0 rfl (Nat.le_refl _))) rfl (Below.refl _ _) _ LD (by rfl) (RD.out _ (below_alloc _ hb5)) Hroom0.out (by simp) ?_))
            intro p7 c7 w7 cells7 hP7 hb7
            try simp only [Nat.zero_add, List.nil_append] at hP7
            try simp only [Nat.zero_add]
            obtain ⟨s7, hs7⟩ : ∃ s, Value.slice p7 LD.length c7 = s := ⟨_, rfl⟩
            rw [hs7] at hP7 ⊢
            have R7 : Hid (Rd Cod.write w7 s7 LD) := Lib.hid (hP7.own rfl).rd
            have k7 : Below w5.heap.size w5 w7 := (below_new _ _).trans hb7
            have hb7' : Below w.heap.size w w7 := below_after k7 hb5
            have X7 : Blk w7 w.heap.size 45 #[.string K, .string V, .bool G] := X5.below k7
            clear hP7 hb7 hs7 X5
            go_upto_region 9 with fail
            refine wp_region_d 10 (fun w' => w'.cell? ⟨w.heap.size, 0, none⟩ = some (.string K) ∧ w'.cell? ⟨w.heap.size, 1, none⟩ = some (.string V) ∧ w'.cell? ⟨w.heap.size, 2, none⟩ = some (.bool G)) (by kernel_rfl) ?_
            obtain ⟨w8, hw8⟩ : ∃ w8, w7.drew = w8 := ⟨_, rfl⟩
            have b8 : Below w7.heap.size w7 w8 := by rw [← hw8]; exact (Below.refl _ _).drew
            rw [hw8]
            have X8 : Blk w8 w.heap.size 45 #[.string K, .string V, .bool G] := X7.below b8
            have R8 : Hid (∀ u, Below w8.heap.size w8 u → Rd Cod.write u s7 LD) := Lib.hid fun u b => (R7.out.below b8).below b
            have hb8 : Below w.heap.size w w8 := below_after b8 hb7'
            have hS8 : Hid (∀ u, Below w8.heap.size w8 u → u.cell? ⟨w.heap.size, 0, none⟩ = some (.string K) ∧ u.cell? ⟨w.heap.size, 1, none⟩ = some (.string V) ∧ u.cell? ⟨w.heap.size, 2, none⟩ = some (.bool G)) := Lib.hid fun u b => ⟨(X8.below b).cell 0 rfl, (X8.below b).cell 1 rfl, (X8.below b).cell 2 rfl⟩
            have hS := hS8.out w8 (Below.refl _ _)
            have hz8 : w.heap.size ≤ w8.heap.size := hb8.size
            clear hw8 X7 R7 k7 b8 hb7' X8
            refine d_take (f := 30) (v := ?_) 1 rfl (by kernel_rfl) (fun _ _ _ h => h) (Or.inl ⟨by rfl, ?_⟩) hS ?_
            rotate_left
            · intro wx hx
              obtain ⟨x0, x1, x2⟩ := hx
              first | (go_simp; done) | (go_simp; with_reducible rfl)
            simp only [Act.put, List.setIfInBounds_toArray]
            refine d_take (f := 30) (v := ?_) 2 rfl (by kernel_rfl) (fun _ _ _ h => h) (Or.inl ⟨by rfl, ?_⟩) hS ?_
            rotate_left
            · intro wx hx
              obtain ⟨x0, x1, x2⟩ := hx
              first | (go_simp; done) | (go_simp; with_reducible rfl)
            simp only [Act.put]
            refine d_take (f := 30) (v := ?_) 3 rfl (by kernel_rfl) (fun _ _ _ h => h) (Or.inl ⟨by rfl, ?_⟩) hS ?_
            rotate_left
            · intro wx hx
              obtain ⟨x0, x1, x2⟩ := hx
              first | (go_simp; done) | (go_simp; with_reducible rfl)
            simp only [Act.put]
            refine d_take (f := 30) (v := ?_) 5 rfl (by kernel_rfl) (fun _ _ _ h => h) (Or.inl ⟨by rfl, ?_⟩) hS ?_
            rotate_left
            · intro wx hx
              obtain ⟨x0, x1, x2⟩ := hx
              first | (go_simp; done) | (go_simp; with_reducible rfl)
            simp only [Act.put]
            refine d_take (f := 30) (v := ?_) 8 rfl (by kernel_rfl) (fun _ _ _ h => h) (Or.inl ⟨by rfl, ?_⟩) hS ?_
            rotate_left
            · intro wx hx
              obtain ⟨x0, x1, x2⟩ := hx
              first | (go_simp; done) | (go_simp; with_reducible rfl)
            simp only [Act.put]
            refine d_two 0 6 (by kernel_rfl) rfl rfl (fun KK hK => ?_) (fun KK hK => ?_)
            · skip
              go_simp
              generalize hA : World.alloc _ _ = wA
              have PE : PartC Cod.write wA w8.heap.size 45 (.slice (some ⟨w8.heap.size, 0, none⟩) 0 0) 0 [] [] := by rw [← hA]; exact part_start (made0 rfl (Nat.le_refl _))
              have bwA : Below w8.heap.size w8 wA := by rw [← hA]; exact below_new _ _
              have kwA : Below w8.heap.size w8 wA := below_after bwA (Below.refl _ _)
              have hzwA : w8.heap.size ≤ wA.heap.size := kwA.size
              have hywA : w8.heap.size ≤ wA.heap.size := bwA.size
              clear hA
              refine hK.out _ _ (fun _ => hS8.out wA kwA) ?_
              clear hK KK
              try simp only [Act.put, List.setIfInBounds_toArray, List.set_cons_zero, List.set_cons_succ]
              refine d_two 4 6 (by kernel_rfl) rfl rfl (fun KK hK => ?_) (fun KK hK => ?_)
              · skip
                obtain ⟨pwB, cwB, wB, cellswB, hrun, PwB, gwB, kkwB⟩ := run_append_flat (P := Try.prog) flat_write wA 24 24 w8.heap.size 45 i0 (.agg #[.string ⟨#[]⟩, .string ⟨#[]⟩, .bool false]) 40 Try.underlying24 hi hz0 hz1 hz2 rfl (by decide) (by decide) _ 0 [] _ PE (by simp) _ LT (RT.out _ (below_after kwA hb8)) Hroom3.out (by first | exact Nat.le_refl _ | omega)
                obtain ⟨swB, hswB⟩ : ∃ s, Value.slice pwB (0 + LT.length) cwB = s := ⟨_, rfl⟩
                rw [hswB] at hrun PwB
                clear hswB
                refine step_append_eq rfl _ _ 24 rfl _ _ (by simp [Act.eval]) (by simp [Act.eval]) hrun ?_
                have kwB : Below w8.heap.size w8 wB := kwA.trans (kkwB.mono (by first | exact Nat.le_refl _ | omega))
                have hzwB : w8.heap.size ≤ wB.heap.size := kwB.size
                have hywB : wA.heap.size ≤ wB.heap.size := kkwB.size
                clear hrun
                refine hK.out _ _ (fun _ => hS8.out wB kwB) ?_
                clear hK KK
                try simp only [Act.put, List.setIfInBounds_toArray]
                refine d_step 6 (by kernel_rfl) rfl (fun KK hK => ?_)
                go_simp
                generalize hA : World.alloc _ _ = wC
                have XB : Blk wC wB.heap.size 45 #[.string K, .string V, .bool G] := by rw [← hA]; exact Blk.new _ _ _
                have bwC : Below wB.heap.size wB wC := by rw [← hA]; exact below_new _ _
                have kwC : Below w8.heap.size w8 wC := below_after bwC kwB
                have hBN : wB.heap.size < wC.heap.size := XB.lt
                have hzwC : w8.heap.size ≤ wC.heap.size := kwC.size
                clear hA
                refine hK.out _ _ (fun _ => hS8.out wC kwC) ?_
                clear hK KK
                try simp only [Act.put, List.setIfInBounds_toArray, List.set_cons_zero, List.set_cons_succ]
                have PC := PwB.below bwC
                refine d_step 7 (by kernel_rfl) rfl (fun KK hK => ?_)
                obtain ⟨pwy, cwy, wy, cellswy, hrun, Pwy, gwy, kkwy⟩ := run_append_flat (P := Try.prog) flat_write wC 24 24 w8.heap.size 45 i0 (.agg #[.string ⟨#[]⟩, .string ⟨#[]⟩, .bool false]) 40 Try.underlying24 hi hz0 hz1 hz2 rfl (by decide) (by decide) _ (0 + LT.length) ([] ++ LT) _ PC (by simp) _ [x] (rd_box XB (Hx.out _)) Hroom1.out (by first | exact Nat.le_refl _ | omega)
                obtain ⟨swy, hswy⟩ : ∃ s, Value.slice pwy ((0 + LT.length) + [x].length) cwy = s := ⟨_, rfl⟩
                rw [hswy] at hrun Pwy
                clear hswy
                refine step_append_eq rfl _ _ 24 rfl _ _ (by simp [Act.eval]) (by simp [Act.eval]) hrun ?_
                have kwy : Below w8.heap.size w8 wy := kwC.trans (kkwy.mono (by first | exact Nat.le_refl _ | omega))
                have hzwy : w8.heap.size ≤ wy.heap.size := kwy.size
                have hywy : wC.heap.size ≤ wy.heap.size := kkwy.size
                clear hrun
                refine hK.out _ _ (fun _ => hS8.out wy kwy) ?_
                clear hK KK
                try simp only [Act.put, List.setIfInBounds_toArray]
                refine d_step 9 (by kernel_rfl) rfl (fun KK hK => ?_)
                obtain ⟨pwz, cwz, wz, cellswz, hrun, Pwz, gwz, kkwz⟩ := run_append_flat (P := Try.prog) flat_write wy 24 24 w8.heap.size 45 i0 (.agg #[.string ⟨#[]⟩, .string ⟨#[]⟩, .bool false]) 40 Try.underlying24 hi hz0 hz1 hz2 rfl (by decide) (by decide) _ (0 + LT.length + [x].length) ([] ++ LT ++ [x]) _ Pwy (by simp) s7 LD (R8.out _ kwy) Hroom2.out (by first | exact Nat.le_refl _ | omega)
                obtain ⟨swz, hswz⟩ : ∃ s, Value.slice pwz ((0 + LT.length + [x].length) + LD.length) cwz = s := ⟨_, rfl⟩
                rw [hswz] at hrun Pwz
                clear hswz
                refine step_append_eq rfl _ _ 24 rfl _ _ (by simp [Act.eval]) (by simp [Act.eval]) hrun ?_
                have kwz : Below w8.heap.size w8 wz := kwy.trans (kkwz.mono (by first | exact Nat.le_refl _ | omega))
                have hzwz : w8.heap.size ≤ wz.heap.size := kwz.size
                have hywz : wy.heap.size ≤ wz.heap.size := kkwz.size
                clear hrun
                refine hK.out _ _ (fun _ => hS8.out wz kwz) ?_
                clear hK KK
                try simp only [Act.put]
                have HF : Hid (PutSPost x l w (.returned swz) wz) := Lib.hid (put_sp Pwz (by omega) (by rw [HE.out]; simp) (by simp only [List.length_append, List.length_nil]) (below_after kwz hb8))
                clear Pwz gwz kkwz Pwy gwy kkwy
                refine d_step 10 (by kernel_rfl) rfl (fun KK hK => ?_)
                go_simp
                refine hK.out _ _ (fun h => by exact absurd h (by decide)) ?_
                clear hK KK
                refine d_done (by kernel_rfl) ?_ _
                try simp only [Act.put, List.setIfInBounds_toArray, List.set_cons_zero, List.set_cons_succ]
                go_wp2
                go_ret
                exact HF.out
              · skip
                go_simp
                generalize hA : World.alloc _ _ = wB
                have XB : Blk wB wA.heap.size 45 #[.string K, .string V, .bool G] := by rw [← hA]; exact Blk.new _ _ _
                have bwB : Below wA.heap.size wA wB := by rw [← hA]; exact below_new _ _
                have kwB : Below w8.heap.size w8 wB := below_after bwB kwA
                have hBN : wA.heap.size < wB.heap.size := XB.lt
                have hzwB : w8.heap.size ≤ wB.heap.size := kwB.size
                clear hA
                refine hK.out _ _ (fun _ => hS8.out wB kwB) ?_
                clear hK KK
                try simp only [Act.put, List.setIfInBounds_toArray, List.set_cons_zero, List.set_cons_succ]
                have PE2 := PE.below bwB
                refine d_step 4 (by kernel_rfl) rfl (fun KK hK => ?_)
                obtain ⟨pwC, cwC, wC, cellswC, hrun, PwC, gwC, kkwC⟩ := run_append_flat (P := Try.prog) flat_write wB 24 24 w8.heap.size 45 i0 (.agg #[.string ⟨#[]⟩, .string ⟨#[]⟩, .bool false]) 40 Try.underlying24 hi hz0 hz1 hz2 rfl (by decide) (by decide) _ 0 [] _ PE2 (by simp) _ LT (RT.out _ (below_after kwB hb8)) Hroom3.out (by first | exact Nat.le_refl _ | omega)
                obtain ⟨swC, hswC⟩ : ∃ s, Value.slice pwC (0 + LT.length) cwC = s := ⟨_, rfl⟩
                rw [hswC] at hrun PwC
                clear hswC
                refine step_append_eq rfl _ _ 24 rfl _ _ (by simp [Act.eval]) (by simp [Act.eval]) hrun ?_
                have kwC : Below w8.heap.size w8 wC := kwB.trans (kkwC.mono (by first | exact Nat.le_refl _ | omega))
                have hzwC : w8.heap.size ≤ wC.heap.size := kwC.size
                have hywC : wB.heap.size ≤ wC.heap.size := kkwC.size
                clear hrun
                refine hK.out _ _ (fun _ => hS8.out wC kwC) ?_
                clear hK KK
                try simp only [Act.put, List.setIfInBounds_toArray]
                have hltA : w8.heap.size < wA.heap.size := (PE.choose_spec.1.lt _ rfl).2
                have gC : wB.grownBy wC (some w8.heap.size) := gwC
                replace XB := XB.grown gC (by omega)
                refine d_step 7 (by kernel_rfl) rfl (fun KK hK => ?_)
                obtain ⟨pwy, cwy, wy, cellswy, hrun, Pwy, gwy, kkwy⟩ := run_append_flat (P := Try.prog) flat_write wC 24 24 w8.heap.size 45 i0 (.agg #[.string ⟨#[]⟩, .string ⟨#[]⟩, .bool false]) 40 Try.underlying24 hi hz0 hz1 hz2 rfl (by decide) (by decide) _ (0 + LT.length) ([] ++ LT) _ PwC (by simp) _ [x] (rd_box XB (Hx.out _)) Hroom1.out (by first | exact Nat.le_refl _ | omega)
                obtain ⟨swy, hswy⟩ : ∃ s, Value.slice pwy ((0 + LT.length) + [x].length) cwy = s := ⟨_, rfl⟩
                rw [hswy] at hrun Pwy
                clear hswy
                refine step_append_eq rfl _ _ 24 rfl _ _ (by simp [Act.eval]) (by simp [Act.eval]) hrun ?_
                have kwy : Below w8.heap.size w8 wy := kwC.trans (kkwy.mono (by first | exact Nat.le_refl _ | omega))
                have hzwy : w8.heap.size ≤ wy.heap.size := kwy.size
                have hywy : wC.heap.size ≤ wy.heap.size := kkwy.size
                clear hrun
                refine hK.out _ _ (fun _ => hS8.out wy kwy) ?_
                clear hK KK
                try simp only [Act.put]
                refine d_step 9 (by kernel_rfl) rfl (fun KK hK => ?_)
                obtain ⟨pwz, cwz, wz, cellswz, hrun, Pwz, gwz, kkwz⟩ := run_append_flat (P := Try.prog) flat_write wy 24 24 w8.heap.size 45 i0 (.agg #[.string ⟨#[]⟩, .string ⟨#[]⟩, .bool false]) 40 Try.underlying24 hi hz0 hz1 hz2 rfl (by decide) (by decide) _ (0 + LT.length + [x].length) ([] ++ LT ++ [x]) _ Pwy (by simp) s7 LD (R8.out _ kwy) Hroom2.out (by first | exact Nat.le_refl _ | omega)
                obtain ⟨swz, hswz⟩ : ∃ s, Value.slice pwz ((0 + LT.length + [x].length) + LD.length) cwz = s := ⟨_, rfl⟩
                rw [hswz] at hrun Pwz
                clear hswz
                refine step_append_eq rfl _ _ 24 rfl _ _ (by simp [Act.eval]) (by simp [Act.eval]) hrun ?_
                have kwz : Below w8.heap.size w8 wz := kwy.trans (kkwz.mono (by first | exact Nat.le_refl _ | omega))
                have hzwz : w8.heap.size ≤ wz.heap.size := kwz.size
                have hywz : wy.heap.size ≤ wz.heap.size := kkwz.size
                clear hrun
                refine hK.out _ _ (fun _ => hS8.out wz kwz) ?_
                clear hK KK
                try simp only [Act.put]
                have HF : Hid (PutSPost x l w (.returned swz) wz) := Lib.hid (put_sp Pwz (by omega) (by rw [HE.out]; simp) (by simp only [List.length_append, List.length_nil]) (below_after kwz hb8))
                clear Pwz gwz kkwz Pwy gwy kkwy
                refine d_step 10 (by kernel_rfl) rfl (fun KK hK => ?_)
                go_simp
                refine hK.out _ _ (fun h => by exact absurd h (by decide)) ?_
                clear hK KK
                refine d_done (by kernel_rfl) ?_ _
                try simp only [Act.put, List.setIfInBounds_toArray, List.set_cons_zero, List.set_cons_succ]
                go_wp2
                go_ret
                exact HF.out
            · skip
              go_simp
              generalize hA : World.alloc _ _ = wA
              have XB : Blk wA w8.heap.size 45 #[.string K, .string V, .bool G] := by rw [← hA]; exact Blk.new _ _ _
              have bwA : Below w8.heap.size w8 wA := by rw [← hA]; exact below_new _ _
              have kwA : Below w8.heap.size w8 wA := below_after bwA (Below.refl _ _)
              have hBN : w8.heap.size < wA.heap.size := XB.lt
              have hzwA : w8.heap.size ≤ wA.heap.size := kwA.size
              clear hA
              refine hK.out _ _ (fun _ => hS8.out wA kwA) ?_
              clear hK KK
              try simp only [Act.put, List.setIfInBounds_toArray, List.set_cons_zero, List.set_cons_succ]
              refine d_step 0 (by kernel_rfl) rfl (fun KK hK => ?_)
              go_simp
              generalize hA : World.alloc _ _ = wB
              have PE : PartC Cod.write wB wA.heap.size 45 (.slice (some ⟨wA.heap.size, 0, none⟩) 0 0) 0 [] [] := by rw [← hA]; exact part_start (made0 rfl (Nat.le_refl _))
              have bwB : Below wA.heap.size wA wB := by rw [← hA]; exact below_new _ _
              have kwB : Below w8.heap.size w8 wB := below_after bwB kwA
              have hzwB : w8.heap.size ≤ wB.heap.size := kwB.size
              have hywB : wA.heap.size ≤ wB.heap.size := bwB.size
              clear hA
              refine hK.out _ _ (fun _ => hS8.out wB kwB) ?_
              clear hK KK
              try simp only [Act.put, List.setIfInBounds_toArray, List.set_cons_zero, List.set_cons_succ]
              have XB2 := XB.below bwB
              refine d_step 4 (by kernel_rfl) rfl (fun KK hK => ?_)
              obtain ⟨pwC, cwC, wC, cellswC, hrun, PwC, gwC, kkwC⟩ := run_append_flat (P := Try.prog) flat_write wB 24 24 wA.heap.size 45 i0 (.agg #[.string ⟨#[]⟩, .string ⟨#[]⟩, .bool false]) 40 Try.underlying24 hi hz0 hz1 hz2 rfl (by decide) (by decide) _ 0 [] _ PE (by simp) _ LT (RT.out _ (below_after kwB hb8)) Hroom3.out (by first | exact Nat.le_refl _ | omega)
              obtain ⟨swC, hswC⟩ : ∃ s, Value.slice pwC (0 + LT.length) cwC = s := ⟨_, rfl⟩
              rw [hswC] at hrun PwC
              clear hswC
              refine step_append_eq rfl _ _ 24 rfl _ _ (by simp [Act.eval]) (by simp [Act.eval]) hrun ?_
              have kwC : Below w8.heap.size w8 wC := kwB.trans (kkwC.mono (by first | exact Nat.le_refl _ | omega))
              have hzwC : w8.heap.size ≤ wC.heap.size := kwC.size
              have hywC : wB.heap.size ≤ wC.heap.size := kkwC.size
              clear hrun
              refine hK.out _ _ (fun _ => hS8.out wC kwC) ?_
              clear hK KK
              try simp only [Act.put, List.setIfInBounds_toArray]
              have gC : wB.grownBy wC (some wA.heap.size) := gwC
              replace XB := XB2.grown gC (by omega)
              refine d_step 7 (by kernel_rfl) rfl (fun KK hK => ?_)
              obtain ⟨pwy, cwy, wy, cellswy, hrun, Pwy, gwy, kkwy⟩ := run_append_flat (P := Try.prog) flat_write wC 24 24 wA.heap.size 45 i0 (.agg #[.string ⟨#[]⟩, .string ⟨#[]⟩, .bool false]) 40 Try.underlying24 hi hz0 hz1 hz2 rfl (by decide) (by decide) _ (0 + LT.length) ([] ++ LT) _ PwC (by simp) _ [x] (rd_box XB (Hx.out _)) Hroom1.out (by first | exact Nat.le_refl _ | omega)
              obtain ⟨swy, hswy⟩ : ∃ s, Value.slice pwy ((0 + LT.length) + [x].length) cwy = s := ⟨_, rfl⟩
              rw [hswy] at hrun Pwy
              clear hswy
              refine step_append_eq rfl _ _ 24 rfl _ _ (by simp [Act.eval]) (by simp [Act.eval]) hrun ?_
              have kwy : Below w8.heap.size w8 wy := kwC.trans (kkwy.mono (by first | exact Nat.le_refl _ | omega))
              have hzwy : w8.heap.size ≤ wy.heap.size := kwy.size
              have hywy : wC.heap.size ≤ wy.heap.size := kkwy.size
              clear hrun
              refine hK.out _ _ (fun _ => hS8.out wy kwy) ?_
              clear hK KK
              try simp only [Act.put]
              refine d_step 9 (by kernel_rfl) rfl (fun KK hK => ?_)
              obtain ⟨pwz, cwz, wz, cellswz, hrun, Pwz, gwz, kkwz⟩ := run_append_flat (P := Try.prog) flat_write wy 24 24 wA.heap.size 45 i0 (.agg #[.string ⟨#[]⟩, .string ⟨#[]⟩, .bool false]) 40 Try.underlying24 hi hz0 hz1 hz2 rfl (by decide) (by decide) _ (0 + LT.length + [x].length) ([] ++ LT ++ [x]) _ Pwy (by simp) s7 LD (R8.out _ kwy) Hroom2.out (by first | exact Nat.le_refl _ | omega)
              obtain ⟨swz, hswz⟩ : ∃ s, Value.slice pwz ((0 + LT.length + [x].length) + LD.length) cwz = s := ⟨_, rfl⟩
              rw [hswz] at hrun Pwz
              clear hswz
              refine step_append_eq rfl _ _ 24 rfl _ _ (by simp [Act.eval]) (by simp [Act.eval]) hrun ?_
              have kwz : Below w8.heap.size w8 wz := kwy.trans (kkwz.mono (by first | exact Nat.le_refl _ | omega))
              have hzwz : w8.heap.size ≤ wz.heap.size := kwz.size
              have hywz : wy.heap.size ≤ wz.heap.size := kkwz.size
              clear hrun
              refine hK.out _ _ (fun _ => hS8.out wz kwz) ?_
              clear hK KK
              try simp only [Act.put]
              have HF : Hid (PutSPost x l w (.returned swz) wz) := Lib.hid (put_sp Pwz (by omega) (by rw [HE.out]; simp) (by simp only [List.length_append, List.length_nil]) (below_after kwz hb8))
              clear Pwz gwz kkwz Pwy gwy kkwy
              refine d_step 10 (by kernel_rfl) rfl (fun KK hK => ?_)
              go_simp
              refine hK.out _ _ (fun h => by exact absurd h (by decide)) ?_
              clear hK KK
              refine d_done (by kernel_rfl) ?_ _
              try simp only [Act.put, List.setIfInBounds_toArray, List.set_cons_zero, List.set_cons_succ]
              go_wp2
              go_ret
              exact HF.out
      · have Hq := Lib.hid (Hnx.out rfl)
        obtain ⟨h1, h2⟩ : Op.bytesLess y.toList K.toList = false ∧ (y.toList == K.toList) = false := Bool.or_eq_false_iff.1 hle
        clear HP1 HP2 Hnx hle Hall hml
        go_wp2_with fail
        go_quiet (fail)
        go_wp2
        go_roundw
        case rel => exact ⟨m, by go_num, by omega, Hq, Lib.hid (X.drewN _), by (repeat (first | (with_reducible exact Below.refl _ _) | (with_reducible refine below_setCell ?_ (by first | (simp; done) | (simp; omega) | omega)) | (with_reducible refine below_alloc _ ?_) | (with_reducible refine below_drewN ?_ _) | (with_reducible assumption) | (with_reducible refine below_after (by assumption) ?_)))⟩
        case measure => simp [intOf]; have := Hm.out; omega

end Go.Proofs.Ytkcidneefdaaiaa
