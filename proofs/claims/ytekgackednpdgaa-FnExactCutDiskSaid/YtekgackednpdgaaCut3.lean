/- CutDisk, spec. -/
import Derived.Test.YtekgackednpdgaaCut2
import Derived.Test.YtekgackednpdgaaExtTail
namespace Go.Proofs.Ytekgackednpdgaa
open Go.RowKit

set_option maxRecDepth 100000 in
set_option maxHeartbeats 3200000 in
/-- spec.CutDisk -/
theorem cutDiskS_any (x y : ByteArray) (n : Int) (hx : x.size ≤ 1048576) (hy : y.size ≤ 1048576) (w : World) :
    Calls Try.prog 29 #[.agg #[.string x, .string y], .int .i64 n] w fun e w' => e = .returned (.tuple #[.agg #[.string (pickB (cutQ x y n) (cutF x n)), .string ⟨#[]⟩], .bool (cutQ x y n)]) ∧ Below w.heap.size w w' := by
  have Hd := Lib.hid (l6Frames_any x hx)
  unfold FramesPost at Hd
  have Hce := Lib.hid (fun (k : Nat) (h : k ≤ (keptL x).length) => cut_ext x k h)
  have Hks := Lib.hid (fun (k : Nat) (h : k < (keptL x).length) => kept_size x k h)
  have hxI : (x.size : Int) ≤ 1048576 := by omega
  have Hlen : Hid ((keptL x).length ≤ 1048576) := Lib.hid (kept_len x hx)
  have hcq : cutQ x y n = (mendQ x y && inB n 0 (keptL x).length) := rfl
  have hcf : cutF x n = catF ((keptL x).take n.toNat) := rfl
  rw [show (framesF (x.size + 1) x 0).1 = keptL x from rfl] at Hd
  generalize (framesF (x.size + 1) x 0).2 = F2 at *
  generalize keptL x = L at *
  rw [hcq, hcf]
  clear hcq hcf
  have Hc := Lib.hid (goodDiskS_any x y (by omega) (by omega))
  clear hx hy
  unfold mendQ
  generalize diskB x y = q at *
  cases q
  · go_enter Try.func29, Try.ntmps29
    go_wp2_with (go_at_call 82; refine (Hc.out _).mono ?_; rintro e w1 ⟨rfl, k⟩; have hx := bcell k; have hz := k.size)
    refine bodyPost_ret (v := .tuple #[.agg #[.string ⟨#[]⟩, .string ⟨#[]⟩], .bool false]) (by simp [results, Try.results29, go_sem, hx.1]) rfl ⟨rfl, ?_⟩
    (repeat (first | (with_reducible exact Below.refl _ _) | (with_reducible refine below_setCell ?_ (by first | (simp; done) | (simp; omega) | omega)) | (with_reducible refine below_alloc _ ?_) | (with_reducible refine below_drewN ?_ _) | (with_reducible assumption) | (with_reducible refine below_after (by assumption) ?_)))
  by_cases hy0 : y.size = 0
  rotate_left
  · have hie := not_nil hy0
    have hd : decide (y.size = 0) = false := by simp [hy0]
    rw [hd]
    go_enter Try.func29, Try.ntmps29
    go_wp2_with (go_at_call 82; refine (Hc.out _).mono ?_; rintro e w1 ⟨rfl, k⟩; have hx := bcell k; have hz := k.size)
    refine bodyPost_ret (v := .tuple #[.agg #[.string ⟨#[]⟩, .string ⟨#[]⟩], .bool false]) (by simp [results, Try.results29, go_sem, hx.1]) rfl ⟨rfl, ?_⟩
    (repeat (first | (with_reducible exact Below.refl _ _) | (with_reducible refine below_setCell ?_ (by first | (simp; done) | (simp; omega) | omega)) | (with_reducible refine below_alloc _ ?_) | (with_reducible refine below_drewN ?_ _) | (with_reducible assumption) | (with_reducible refine below_after (by assumption) ?_)))
  · have hyn := bytes_nil hy0
    subst hyn
    clear hy0
    obtain ⟨nL, hnL⟩ : ∃ m : Nat, L.length = m := ⟨_, rfl⟩
    have HnL := Lib.hid hnL
    have hw := inB_iff (n := n) (lo := 0) (hi := (L.length : Int))
    have Hw := Lib.hid (l1In_any n 0 (L.length : Int))
    rw [hnL] at Hw hw ⊢
    clear hnL
    generalize inB n 0 (nL : Int) = qi at *
    have hnLI : (nL : Int) ≤ 1048576 := by have := Hlen.out; have := HnL.out; omega
    have Hwi := Lib.hid hw.1
    clear hw
    cases qi
    · go_enter Try.func29, Try.ntmps29
      go_wp2_with fail
      refine (Hc.out _).mono ?_
      rintro e w1 ⟨rfl, k⟩
      have hx1 := bcell k
      have c0 : w1.cell? ⟨w.heap.size, 0, none⟩ = some (.string x) := by rw [hx1.1 _ _ (by simp; omega)]; simp [go_sem]
      have c1 : w1.cell? ⟨w.heap.size, 1, none⟩ = some (.string ⟨#[]⟩) := by rw [hx1.1 _ _ (by simp; omega)]; simp [go_sem]
      have c2 : w1.cell? ⟨w.heap.size + 1, 0, none⟩ = some (.string ⟨#[]⟩) := by rw [hx1.1 _ _ (by simp)]; simp [go_sem]
      have c3 : w1.cell? ⟨w.heap.size + 1, 1, none⟩ = some (.string ⟨#[]⟩) := by rw [hx1.1 _ _ (by simp)]; simp [go_sem]
      have c4 : w1.frozen? ⟨w.heap.size + 1, 0, none⟩ = false := by rw [hx1.2 _ _ (by simp)]; simp [go_sem]
      have c5 : w1.frozen? ⟨w.heap.size + 1, 1, none⟩ = false := by rw [hx1.2 _ _ (by simp)]; simp [go_sem]
      have c6 : Below w.heap.size w w1 := below_after k (by (repeat (first | exact Below.refl _ _ | exact below_new _ _ | refine below_setCell ?_ (by first | (simp; done) | (simp; omega) | omega) | refine below_alloc _ ?_ | refine below_drewN ?_ _ | refine below_after (by assumption) ?_ | assumption)))
      have c7 : w.heap.size + 1 < w1.heap.size := by have := k.size; simp at this; omega
      clear hx1 k
      go_wp2_with fail
      refine (Hd.out _).mono ?_
      rintro e w2 ⟨v, rfl, hown, k2⟩
      have hrow := StrRow.owned hown
      clear hown
      clear c1
      replace c0 := cell_step k2 c0
      have f4 := frozen_step k2 c2 c4
      have f5 := frozen_step k2 c3 c5
      replace c2 := cell_step k2 c2
      replace c3 := cell_step k2 c3
      replace c6 := below_after k2 c6
      replace c7 := Nat.lt_of_lt_of_le c7 k2.size
      clear c4 c5 k2
      obtain ⟨p, cap, hv, R⟩ := hrow
      rw [HnL.out] at hv
      subst hv
      have R := Lib.hid R
      go_wp2_with fail
      refine (Hw.out _).mono ?_
      rintro e w3 ⟨rfl, rfl⟩
      go_wp2
      refine bodyPost_ret (v := .tuple #[.agg #[.string ⟨#[]⟩, .string ⟨#[]⟩], .bool false]) (by simp [results, Try.results29, go_sem, c2, c3]) rfl ⟨rfl, ?_⟩
      (repeat (first | (with_reducible exact Below.refl _ _) | (with_reducible refine below_setCell ?_ (by first | (simp; done) | (simp; omega) | omega)) | (with_reducible refine below_alloc _ ?_) | (with_reducible refine below_drewN ?_ _) | (with_reducible assumption) | (with_reducible refine below_after (by assumption) ?_)))
    · obtain ⟨hn0, hn1⟩ := Hwi.out rfl
      obtain ⟨m, rfl⟩ := Int.eq_ofNat_of_zero_le hn0
      have hmL : m ≤ nL := by omega
      clear hn0
      rw [Int.toNat_natCast]
      have Hrb := Lib.hid (fun (s : ByteArray) (h : s.size ≤ 4294967296) => l6Frame_any s h)
      go_enter Try.func29, Try.ntmps29
      go_wp2_with fail
      refine (Hc.out _).mono ?_
      rintro e w1 ⟨rfl, k⟩
      have hx1 := bcell k
      have c0 : w1.cell? ⟨w.heap.size, 0, none⟩ = some (.string x) := by rw [hx1.1 _ _ (by simp; omega)]; simp [go_sem]
      have c1 : w1.cell? ⟨w.heap.size, 1, none⟩ = some (.string ⟨#[]⟩) := by rw [hx1.1 _ _ (by simp; omega)]; simp [go_sem]
      have c2 : w1.cell? ⟨w.heap.size + 1, 0, none⟩ = some (.string ⟨#[]⟩) := by rw [hx1.1 _ _ (by simp)]; simp [go_sem]
      have c3 : w1.cell? ⟨w.heap.size + 1, 1, none⟩ = some (.string ⟨#[]⟩) := by rw [hx1.1 _ _ (by simp)]; simp [go_sem]
      have c4 : w1.frozen? ⟨w.heap.size + 1, 0, none⟩ = false := by rw [hx1.2 _ _ (by simp)]; simp [go_sem]
      have c5 : w1.frozen? ⟨w.heap.size + 1, 1, none⟩ = false := by rw [hx1.2 _ _ (by simp)]; simp [go_sem]
      have c6 : Below w.heap.size w w1 := below_after k (by (repeat (first | exact Below.refl _ _ | exact below_new _ _ | refine below_setCell ?_ (by first | (simp; done) | (simp; omega) | omega) | refine below_alloc _ ?_ | refine below_drewN ?_ _ | refine below_after (by assumption) ?_ | assumption)))
      have c7 : w.heap.size + 1 < w1.heap.size := by have := k.size; simp at this; omega
      clear hx1 k
      go_wp2_with fail
      refine (Hd.out _).mono ?_
      rintro e w2 ⟨v, rfl, hown, k2⟩
      have hrow := StrRow.owned hown
      clear hown
      clear c1
      replace c0 := cell_step k2 c0
      have f4 := frozen_step k2 c2 c4
      have f5 := frozen_step k2 c3 c5
      replace c2 := cell_step k2 c2
      replace c3 := cell_step k2 c3
      replace c6 := below_after k2 c6
      replace c7 := Nat.lt_of_lt_of_le c7 k2.size
      clear c4 c5 k2
      obtain ⟨p, cap, hv, R⟩ := hrow
      rw [HnL.out] at hv
      subst hv
      have R := Lib.hid R
      go_wp2_with fail
      refine (Hw.out _).mono ?_
      rintro e w3 ⟨rfl, rfl⟩
      go_wp2
      go_loopw [9] (fun i wr => ∃ k : Nat, i = .int .i64 (k : Int) ∧ k ≤ m ∧ wr.cell? ⟨w2.heap.size, 0, none⟩ = some (.string (catF (L.take k))) ∧ wr.cell? ⟨w2.heap.size, 1, none⟩ = some (.string ⟨#[]⟩) ∧ wr.frozen? ⟨w2.heap.size, 0, none⟩ = false ∧ w2.heap.size < wr.heap.size ∧ Below w2.heap.size w2 wr) (fun i _ => m - (intOf i).toNat)
      case atStart => exact ⟨0, rfl, Nat.zero_le _, by simp [go_sem, catF], by simp [go_sem], by simp [go_sem], by simp, below_new _ _⟩
      case round =>
        obtain ⟨k, rfl, hk, a0, a1, af, hsz, hb⟩ := hrel
        by_cases hlt : k < m
        · have hlt2 : (k : Int) < (m : Int) := by omega
          have hkl : k < L.length := by have := HnL.out; omega
          obtain ⟨g, o, rfl, hg, hc⟩ := R.out (by omega)
          have d0 : wr.cell? ⟨g, o + k, none⟩ = some (.string L[k]) := (hb.cell (p := ⟨g, o + k, none⟩) hg).trans (hc k hkl)
          have hz := Hks.out k hkl
          have Ht := Lib.hid (show catF (L.take (k + 1)) = catF (L.take k) ++ frameB L[k] from by rw [List.take_succ_eq_append_getElem hkl, catF_snoc])
          have hle := (Hce.out (k + 1) (by omega)).1
          rw [Ht.out, ByteArray.size_append] at hle
          obtain ⟨s, es⟩ : ∃ s, L[k] = s := ⟨_, rfl⟩
          rw [es] at d0 hz Ht hle
          have Hf := Lib.hid (Hrb.out s (by omega))
          have hnLk : (k : Int) < (nL : Int) := by omega
          have hgl : g < wr.heap.size := by omega
          obtain ⟨t, ht⟩ : ∃ t, catF (L.take k) = t := ⟨_, rfl⟩
          rw [ht] at Ht hle a0
          generalize frameB s = fb at *
          have hadd := fun W => run_string_add_sum (P := Try.prog) (w := W) t fb (by omega)
          clear hc es hkl ht hz
          have hx2 := fun (u : World) (b o : Nat) (h : b < wr.heap.size) => ext_cell wr u b o h
          go_wp2_with fail
          refine wp_region_ext_tail 9 (by kernel_rfl) (by kernel_rfl) wr.heap.size ?_
          simp only [List.take_succ_cons, List.take_zero, List.drop_succ_cons, List.drop_zero]
          repeat (any_goals (go_big_quiet_step ((go_at_call 85; exact calls_ext (by first | (simp; done) | omega | (simp; omega)) (Hf.out _)))))
          refine wpQuiet_nil ?_
          intro w4 hb4
          have b0 := cell_step hb4 a0
          have b1 := cell_step hb4 a1
          have bf := frozen_step hb4 a0 af
          have bz := Nat.lt_of_lt_of_le hsz hb4.size
          clear hx2 a0 a1 af
          go_wp2
          go_roundw
          case rel => exact ⟨k + 1, by go_num, by omega, by rw [Ht.out]; exact World.cell?_setCell_same _ _ _ b0, (World.cell?_setCell_other _ _ _ _ (by simp)).trans b1, by rw [World.frozen?_setCell]; exact bf, by simp; omega, below_setCell (below_after hb4 hb) (Nat.le_refl _)⟩
          case measure => simp [intOf]; omega
        · have hlt2 : (m : Int) ≤ (k : Int) := by omega
          obtain rfl : k = m := by omega
          have d2 := cell_step hb c2
          have d3 := cell_step hb c3
          have d4 := frozen_step hb c2 f4
          have d5 := frozen_step hb c3 f5
          have d6 := below_after hb c6
          clear c0 c2 c3 f4 f5
          obtain ⟨t, ht⟩ : ∃ t, catF (L.take k) = t := ⟨_, rfl⟩
          rw [ht] at a0
          have Ht := Lib.hid ht
          clear ht
          go_wp2
          have hr := set2_cells (W := wr) (b := w.heap.size + 1) (u0 := .string t) (u1 := .string ⟨#[]⟩) (World.cell?_setCell_other _ _ _ _ (by simp) |>.trans (World.cell?_setCell_same _ _ _ d2)) (World.cell?_setCell_same _ _ _ ((World.cell?_setCell_other _ _ _ _ (by simp)).trans d3))
          refine bodyPost_ret (v := .tuple #[.agg #[.string t, .string ⟨#[]⟩], .bool true]) (by simp [results, Try.results29, go_sem, hr.1, hr.2]) rfl ⟨by rw [Ht.out]; rfl, ?_⟩
          (repeat (first | (with_reducible exact Below.refl _ _) | (with_reducible refine below_setCell ?_ (by first | (simp; done) | (simp; omega) | omega)) | (with_reducible refine below_alloc _ ?_) | (with_reducible refine below_drewN ?_ _) | (with_reducible assumption) | (with_reducible refine below_after (by assumption) ?_)))

end Go.Proofs.Ytekgackednpdgaa
