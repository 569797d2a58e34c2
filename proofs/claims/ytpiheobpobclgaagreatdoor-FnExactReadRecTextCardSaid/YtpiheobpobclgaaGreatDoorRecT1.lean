/- Texts of numbers. -/
import Derived.Test.YtpiheobpobclgaaGreatDoorNumG
import Derived.Test.YtpiheobpobclgaaGreatDoorGoodr
import Derived.Lib.ItoaLen
import Derived.Test.YtpiheobpobclgaaGreatDoorHeld
import Derived.Laws.IdiomStrings
namespace Go.Proofs.YtpiheobpobclgaaGreatDoor
open Go.RowKit

/-- A number's text. -/
def numT (n : Nat) : ByteArray := ⟨(Lib.decDigits n).toArray⟩
theorem numT_size (n : Nat) : (numT n).size = (Lib.decDigits n).length := by unfold numT; simp [ByteArray.size]
theorem numT_le {n : Nat} (h : n ≤ 1000000) : (numT n).size ≤ 21 := by
  have := Lib.itoa_length_le (n : Int) (by omega) (by omega)
  rw [Lib.itoa_nonneg] at this
  rw [numT_size]
  exact this
theorem numT_one {n : Nat} (h : n < 10) : numT n = ⟨#[UInt8.ofNat (48 + n)]⟩ := by unfold numT; rw [Lib.decDigits_one h]
theorem numT_big {n : Nat} (h : ¬ n < 10) : numT n = numT (n / 10) ++ ⟨#[UInt8.ofNat (48 + n % 10)]⟩ := by
  unfold numT
  rw [decDigits_big h]
  apply ByteArray.ext
  rw [ByteArray.data_append]
  simp

/-- A slice of one byte, as a string. -/
theorem conv_one {w : World} {a : Addr} {bb : UInt8} {z : Int} (hz : (bb.toNat : Int) = z) (h : w.cell? a = some (.int .u8 z)) :
    (convert 59 9 (.slice (some a) 1 1)).run Tryz.prog w = .ok (.string ⟨#[bb]⟩) w := by
  refine run_convert_bytes_back (P := Tryz.prog) w 59 9 5 a 1 [bb] Tryz.underlying59 Tryz.underlying5 Tryz.underlying9 fun j hj => ?_
  simp only [List.length_cons, List.length_nil] at hj
  obtain rfl : j = 0 := by omega
  rw [show a.add 0 = a from by simp [Addr.add], h, ← hz]
  rfl

set_option maxRecDepth 100000 in
set_option maxHeartbeats 3200000 in
/-- spec.l1Num -/
theorem l1Num_any (n : Nat) (hn : n ≤ 1000000) (w : World) : Calls Tryz.prog 31 #[.int .i64 (n : Int)] w fun e w' => e = .returned (.string (numT n)) ∧ Below w.heap.size w w' := by
  induction n using Nat.strongRecOn generalizing w with
  | ind n ih =>
    have hnI : (n : Int) ≤ 1000000 := by omega
    by_cases h : n < 10
    · have hI : (n : Int) < 10 := by omega
      rw [numT_one h]
      have hb : ((UInt8.ofNat (48 + n)).toNat : Int) = 48 + (n : Int) := by rw [UInt8.toNat_ofNat']; omega
      have hcv := fun (W : World) => run_convert_bytes_back (P := Tryz.prog) (W.alloc (.cells #[.int .u8 (48 + (n : Int))] 5)) 59 9 5 ⟨W.heap.size, 0, none⟩ 1 [UInt8.ofNat (48 + n)] Tryz.underlying59 Tryz.underlying5 Tryz.underlying9 (fun j hj => by
        simp only [List.length_cons, List.length_nil] at hj
        obtain rfl : j = 0 := by omega
        simp [go_sem, Addr.add]
        exact hb.symm)
      simp only [List.length_cons, List.length_nil] at hcv
      clear ih hb
      generalize UInt8.ofNat (48 + n) = bb at *
      go_enter Tryz.func31, Tryz.ntmps31
      go_wp2
      go_ret
      exact ⟨rfl, by (repeat (first | (with_reducible exact Below.refl _ _) | (with_reducible refine below_setCell ?_ (by first | (simp; done) | (simp; omega) | omega)) | (with_reducible refine below_alloc _ ?_) | (with_reducible refine below_drewN ?_ _) | (with_reducible assumption) | (with_reducible refine below_after (by assumption) ?_)))⟩
    · have hI : 10 ≤ (n : Int) := by omega
      rw [numT_big h]
      have e10 : ((n / 10 : Nat) : Int) = (n : Int) / 10 := by omega
      have hr := fun W => ih (n / 10) (by omega) (by omega) W
      simp only [e10] at hr
      have Hr := Lib.hid hr
      clear hr e10
      have hs := numT_le (n := n / 10) (by omega)
      have hb : ((UInt8.ofNat (48 + n % 10)).toNat : Int) = 48 + (n : Int) % 10 := by rw [UInt8.toNat_ofNat']; omega
      clear ih
      have Hb := Lib.hid hb
      clear hb
      generalize numT (n / 10) = t at *
      generalize UInt8.ofNat (48 + n % 10) = bb at *
      have hadd := fun W => run_string_add_sum (P := Tryz.prog) (w := W) t ⟨#[bb]⟩ (by show _ + 1 ≤ _; omega)
      have w1 : IntKind.i64.wrap ((n : Int) / 10) = (n : Int) / 10 := IntWalk.i64_in _ (by omega)
      have w2 : (n : Int).tmod 10 = (n : Int) % 10 := Int.tmod_eq_emod_of_nonneg (by omega)
      have w3 : IntKind.i64.wrap (48 + (n : Int) % 10) = 48 + (n : Int) % 10 := IntWalk.i64_in _ (by omega)
      have w4 : IntKind.u8.wrap (48 + (n : Int) % 10) = 48 + (n : Int) % 10 := by rw [IntKind.wrap_u8]; omega
      go_enter Tryz.func31, Tryz.ntmps31
      go_wp2
      refine wp_region_d 10 (fun _ => True) (by kernel_rfl) ?_
      have hS : True := trivial
      refine d_takeY (v := ?_) 0 rfl (by kernel_rfl) (fun _ _ _ h => h) (Or.inl ⟨by rfl, ?_⟩) hS ?_
      rotate_left
      · intro wx _
        first | (go_simp; done) | (go_simp; with_reducible rfl)
      simp only [Act.put, List.setIfInBounds_toArray, List.set_cons_zero, List.set_cons_succ]
      refine d_takeY (v := ?_) 1 rfl (by kernel_rfl) (fun _ _ _ h => h) (Or.inl ⟨by rfl, ?_⟩) hS ?_
      rotate_left
      · intro wx _
        first | (go_simp; done) | (go_simp; with_reducible rfl)
      simp only [Act.put, List.setIfInBounds_toArray, List.set_cons_zero, List.set_cons_succ]
      refine d_takeY (v := ?_) 3 rfl (by kernel_rfl) (fun _ _ _ h => h) (Or.inl ⟨by rfl, ?_⟩) hS ?_
      rotate_left
      · intro wx _
        first | (go_simp; done) | (go_simp; with_reducible rfl)
      simp only [Act.put, List.setIfInBounds_toArray, List.set_cons_zero, List.set_cons_succ]
      refine d_takeY (v := ?_) 4 rfl (by kernel_rfl) (fun _ _ _ h => h) (Or.inl ⟨by rfl, ?_⟩) hS ?_
      rotate_left
      · intro wx _
        first | (go_simp; done) | (go_simp; with_reducible rfl)
      simp only [Act.put, List.setIfInBounds_toArray, List.set_cons_zero, List.set_cons_succ]
      refine d_takeY (v := ?_) 5 rfl (by kernel_rfl) (fun _ _ _ h => h) (Or.inl ⟨by rfl, ?_⟩) hS ?_
      rotate_left
      · intro wx _
        first | (go_simp; done) | (go_simp; with_reducible rfl)
      simp only [Act.put, List.setIfInBounds_toArray, List.set_cons_zero, List.set_cons_succ]
      refine d_takeY (v := ?_) 6 rfl (by kernel_rfl) (fun _ _ _ h => h) (Or.inl ⟨by rfl, ?_⟩) hS ?_
      rotate_left
      · intro wx _
        first | (go_simp; done) | (go_simp; with_reducible rfl)
      simp only [Act.put, List.setIfInBounds_toArray, List.set_cons_zero, List.set_cons_succ]
      try simp only [w1, w2, w3, w4]
      clear w1 w2 w3 w4
      refine d_two 2 7 (by kernel_rfl) rfl rfl (fun K hK => ?_) (fun K hK => ?_)
      · skip
        go_simp
        go_at_call 31
        refine (Hr.out _).mono ?_
        rintro e x1 ⟨rfl, k⟩
        have m1 : Below w.heap.size w x1 := below_after k (by (repeat (first | (with_reducible exact Below.refl _ _) | (with_reducible refine below_setCell ?_ (by first | (simp; done) | (simp; omega) | omega)) | (with_reducible refine below_alloc _ ?_) | (with_reducible refine below_drewN ?_ _) | (with_reducible refine below_drew_step ?_) | (with_reducible assumption) | (with_reducible refine below_after (by assumption) ?_))))
        refine hK.out _ _ (fun _ => trivial) ?_
        clear hK K k
        try simp only [Act.put, List.setIfInBounds_toArray, List.set_cons_zero, List.set_cons_succ]
        refine d_step 7 (by kernel_rfl) rfl (fun K hK => ?_)
        go_simp
        generalize hA : World.alloc _ _ = wA
        have m0 : Below w.heap.size w wA := by rw [← hA]; (repeat (first | (with_reducible exact Below.refl _ _) | (with_reducible refine below_setCell ?_ (by first | (simp; done) | (simp; omega) | omega)) | (with_reducible refine below_alloc _ ?_) | (with_reducible refine below_drewN ?_ _) | (with_reducible refine below_drew_step ?_) | (with_reducible assumption) | (with_reducible refine below_after (by assumption) ?_)))
        have hc : ∀ wx, Below wA.heap.size wA wx → (convert 59 9 (.slice (some ⟨x1.heap.size, 0, none⟩) 1 1)).run Tryz.prog wx = .ok (.string ⟨#[bb]⟩) wx := fun wx kx => conv_one Hb.out ((kx.cell (p := ⟨x1.heap.size, 0, none⟩) (by rw [← hA]; simp)).trans (by rw [← hA]; simp [go_sem]))
        replace hc := hc wA (Below.refl _ _)
        refine hK.out _ _ (fun _ => trivial) ?_
        clear hK K hA
        try simp only [Act.put, List.setIfInBounds_toArray, List.set_cons_zero, List.set_cons_succ]
        refine d_step 8 (by kernel_rfl) rfl (fun K hK => ?_)
        go_simp
        refine hK.out _ _ (fun _ => trivial) ?_
        clear hK K
        try simp only [Act.put, List.setIfInBounds_toArray, List.set_cons_zero, List.set_cons_succ]
        refine d_step 9 (by kernel_rfl) rfl (fun K hK => ?_)
        go_simp
        refine hK.out _ _ (fun _ => trivial) ?_
        clear hK K
        try simp only [Act.put, List.setIfInBounds_toArray, List.set_cons_zero, List.set_cons_succ]
        refine d_step 10 (by kernel_rfl) rfl (fun K hK => ?_)
        go_simp
        refine hK.out _ _ (fun _ => trivial) ?_
        clear hK K
        try simp only [Act.put, List.setIfInBounds_toArray, List.set_cons_zero, List.set_cons_succ]
        refine d_done (by kernel_rfl) ?_ _
        try simp only [Act.put, List.setIfInBounds_toArray, List.set_cons_zero, List.set_cons_succ]
        go_wp2
        go_ret
        exact ⟨rfl, by (repeat (first | (with_reducible exact Below.refl _ _) | (with_reducible refine below_setCell ?_ (by first | (simp; done) | (simp; omega) | omega)) | (with_reducible refine below_alloc _ ?_) | (with_reducible refine below_drewN ?_ _) | (with_reducible refine below_drew_step ?_) | (with_reducible assumption) | (with_reducible refine below_after (by assumption) ?_)))⟩
      · skip
        go_simp
        generalize hA : World.drew (World.alloc _ _) = wA
        have m0 : Below w.heap.size w wA := by rw [← hA]; (repeat (first | (with_reducible exact Below.refl _ _) | (with_reducible refine below_setCell ?_ (by first | (simp; done) | (simp; omega) | omega)) | (with_reducible refine below_alloc _ ?_) | (with_reducible refine below_drewN ?_ _) | (with_reducible refine below_drew_step ?_) | (with_reducible assumption) | (with_reducible refine below_after (by assumption) ?_)))
        have hc : ∀ wx, Below wA.heap.size wA wx → (convert 59 9 (.slice (some ⟨w.heap.size, 0, none⟩) 1 1)).run Tryz.prog wx = .ok (.string ⟨#[bb]⟩) wx := fun wx kx => conv_one Hb.out ((kx.cell (p := ⟨w.heap.size, 0, none⟩) (by rw [← hA]; simp)).trans (by rw [← hA]; simp [go_sem]))
        refine hK.out _ _ (fun _ => trivial) ?_
        clear hK K hA
        try simp only [Act.put, List.setIfInBounds_toArray, List.set_cons_zero, List.set_cons_succ]
        refine d_two 2 8 (by kernel_rfl) rfl rfl (fun K hK => ?_) (fun K hK => ?_)
        · skip
          go_simp
          go_at_call 31
          refine (Hr.out _).mono ?_
          rintro e x1 ⟨rfl, k⟩
          have m1 : Below w.heap.size w x1 := below_after k m0
          replace hc := hc x1 k
          refine hK.out _ _ (fun _ => trivial) ?_
          clear hK K k
          try simp only [Act.put, List.setIfInBounds_toArray, List.set_cons_zero, List.set_cons_succ]
          refine d_step 8 (by kernel_rfl) rfl (fun K hK => ?_)
          go_simp
          refine hK.out _ _ (fun _ => trivial) ?_
          clear hK K
          try simp only [Act.put, List.setIfInBounds_toArray, List.set_cons_zero, List.set_cons_succ]
          refine d_step 9 (by kernel_rfl) rfl (fun K hK => ?_)
          go_simp
          refine hK.out _ _ (fun _ => trivial) ?_
          clear hK K
          try simp only [Act.put, List.setIfInBounds_toArray, List.set_cons_zero, List.set_cons_succ]
          refine d_step 10 (by kernel_rfl) rfl (fun K hK => ?_)
          go_simp
          refine hK.out _ _ (fun _ => trivial) ?_
          clear hK K
          try simp only [Act.put, List.setIfInBounds_toArray, List.set_cons_zero, List.set_cons_succ]
          refine d_done (by kernel_rfl) ?_ _
          try simp only [Act.put, List.setIfInBounds_toArray, List.set_cons_zero, List.set_cons_succ]
          go_wp2
          go_ret
          exact ⟨rfl, by (repeat (first | (with_reducible exact Below.refl _ _) | (with_reducible refine below_setCell ?_ (by first | (simp; done) | (simp; omega) | omega)) | (with_reducible refine below_alloc _ ?_) | (with_reducible refine below_drewN ?_ _) | (with_reducible refine below_drew_step ?_) | (with_reducible assumption) | (with_reducible refine below_after (by assumption) ?_)))⟩
        · skip
          replace hc := hc wA (Below.refl _ _)
          go_simp
          refine hK.out _ _ (fun _ => trivial) ?_
          clear hK K
          try simp only [Act.put, List.setIfInBounds_toArray, List.set_cons_zero, List.set_cons_succ]
          refine d_step 2 (by kernel_rfl) rfl (fun K hK => ?_)
          go_simp
          go_at_call 31
          refine (Hr.out _).mono ?_
          rintro e x1 ⟨rfl, k⟩
          have m1 : Below w.heap.size w x1 := below_after k m0
          refine hK.out _ _ (fun _ => trivial) ?_
          clear hK K k
          try simp only [Act.put, List.setIfInBounds_toArray, List.set_cons_zero, List.set_cons_succ]
          refine d_step 9 (by kernel_rfl) rfl (fun K hK => ?_)
          go_simp
          refine hK.out _ _ (fun _ => trivial) ?_
          clear hK K
          try simp only [Act.put, List.setIfInBounds_toArray, List.set_cons_zero, List.set_cons_succ]
          refine d_step 10 (by kernel_rfl) rfl (fun K hK => ?_)
          go_simp
          refine hK.out _ _ (fun _ => trivial) ?_
          clear hK K
          try simp only [Act.put, List.setIfInBounds_toArray, List.set_cons_zero, List.set_cons_succ]
          refine d_done (by kernel_rfl) ?_ _
          try simp only [Act.put, List.setIfInBounds_toArray, List.set_cons_zero, List.set_cons_succ]
          go_wp2
          go_ret
          exact ⟨rfl, by (repeat (first | (with_reducible exact Below.refl _ _) | (with_reducible refine below_setCell ?_ (by first | (simp; done) | (simp; omega) | omega)) | (with_reducible refine below_alloc _ ?_) | (with_reducible refine below_drewN ?_ _) | (with_reducible refine below_drew_step ?_) | (with_reducible assumption) | (with_reducible refine below_after (by assumption) ?_)))⟩

end Go.Proofs.YtpiheobpobclgaaGreatDoor
