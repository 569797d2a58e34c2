/- CutDisk, impl. -/
import Derived.Test.YtekgackednpdgaaCut
namespace Go.Proofs.Ytekgackednpdgaa
open Go.RowKit

theorem own_cap {w : World} {base size n : Nat} {e : TypeId} {v : Value} {xs : List Value} (h : w.ownsRow base e size v n xs) : ∃ p cap, v = .slice p n cap ∧ n ≤ cap := by
  rcases h.2 with ⟨rfl, rfl⟩ | ⟨g, cap, _, rfl, _, _, h1, _⟩
  · exact ⟨none, 0, rfl, Nat.le_refl _⟩
  · exact ⟨_, cap, rfl, h1⟩

theorem framesF_len (B : ByteArray) : ∀ k st, st ≤ B.size → (framesF k B st).1.length + st ≤ B.size := by
  intro k
  induction k with
  | zero => intro st h; show 0 + st ≤ _; omega
  | succ k ih =>
    intro st h
    cases hf : frameOf B st with
    | none => rw [framesF_none (Nat.succ_pos _) hf]; show 0 + st ≤ _; omega
    | some sp =>
      obtain ⟨s, p⟩ := sp
      obtain ⟨h1, h2⟩ := frameOf_lt hf
      rw [framesF_some (Nat.succ_pos _) hf, show k.succ - 1 = k from rfl]
      have := ih p h2
      simp only [List.length_cons]
      omega
theorem kept_len (x : ByteArray) (h : x.size ≤ 1048576) : (keptL x).length ≤ 1048576 := by
  have := framesF_len x (x.size + 1) 0 (Nat.zero_le _)
  unfold keptL
  omega

set_option maxRecDepth 100000 in
set_option maxHeartbeats 3200000 in
/-- impl.CutDisk -/
theorem cutDisk_any (x y : ByteArray) (n : Int) (hx : x.size ≤ 1048576) (hy : y.size ≤ 1048576) (w : World) :
    Calls Try.prog 31 #[.agg #[.string x, .string y], .int .i64 n] w fun e w' => e = .returned (.tuple #[.agg #[.string (pickB (cutQ x y n) (cutF x n)), .string ⟨#[]⟩], .bool (cutQ x y n)]) ∧ Below w.heap.size w w' := by
  have Hd := Lib.hid (framesOf_any x hx)
  unfold FramesPost at Hd
  have Hce := Lib.hid (fun (k : Nat) (h : k ≤ (keptL x).length) => cut_ext x k h)
  have Hks := Lib.hid (fun (k : Nat) (h : k < (keptL x).length) => kept_size x k h)
  have hxI : (x.size : Int) ≤ 1048576 := by omega
  have Hlen : Hid ((keptL x).length ≤ 1048576) := Lib.hid (kept_len x hx)
  have hcq : cutQ x y n = (mendQ x y && inB n 0 (keptL x).length) := rfl
  have hcf : cutF x n = catF ((keptL x).take n.toNat) := rfl
  rw [show (framesF (x.size + 1) x 0).1 = keptL x from rfl] at Hd
  generalize (framesF (x.size + 1) x 0).2 = F2 at *
  generalize keptL x = L at *
  rw [hcq, hcf]
  clear hcq hcf
  have Hc := Lib.hid (isMendable_any x y hx hy)
  clear hx hy
  generalize mendQ x y = q at *
  cases q
  · go_enter Try.func31, Try.ntmps31
    go_wp2_with (go_at_call 86; refine (Hc.out _).mono ?_; rintro e w1 ⟨rfl, k⟩; have hx := bcell k; have hz := k.size)
    refine bodyPost_ret (v := .tuple #[.agg #[.string ⟨#[]⟩, .string ⟨#[]⟩], .bool false]) (by simp [results, Try.results31, go_sem, hx.1]) rfl ⟨rfl, ?_⟩
    (repeat (first | (with_reducible exact Below.refl _ _) | (with_reducible refine below_setCell ?_ (by first | (simp; done) | (simp; omega) | omega)) | (with_reducible refine below_alloc _ ?_) | (with_reducible refine below_drewN ?_ _) | (with_reducible assumption) | (with_reducible refine below_after (by assumption) ?_)))
  · obtain ⟨nL, hnL⟩ : ∃ m : Nat, L.length = m := ⟨_, rfl⟩
    have HnL := Lib.hid hnL
    have hw := inB_iff (n := n) (lo := 0) (hi := (L.length : Int))
    have Hw := Lib.hid (within_any n 0 (L.length : Int))
    rw [hnL] at Hw hw ⊢
    clear hnL
    generalize inB n 0 (nL : Int) = qi at *
    have hnLI : (nL : Int) ≤ 1048576 := by have := Hlen.out; have := HnL.out; omega
    have Hwi := Lib.hid hw.1
    clear hw
    cases qi
    · go_enter Try.func31, Try.ntmps31
      go_wp2_with fail
      refine (Hc.out _).mono ?_
      rintro e w1 ⟨rfl, k⟩
      have hx1 := bcell k
      have c0 : w1.cell? ⟨w.heap.size, 0, none⟩ = some (.string x) := by rw [hx1.1 _ _ (by simp; omega)]; simp [go_sem]
      have c2 : w1.cell? ⟨w.heap.size + 1, 0, none⟩ = some (.string ⟨#[]⟩) := by rw [hx1.1 _ _ (by simp)]; simp [go_sem]
      have c3 : w1.cell? ⟨w.heap.size + 1, 1, none⟩ = some (.string ⟨#[]⟩) := by rw [hx1.1 _ _ (by simp)]; simp [go_sem]
      have c4 : w1.frozen? ⟨w.heap.size + 1, 0, none⟩ = false := by rw [hx1.2 _ _ (by simp)]; simp [go_sem]
      have c5 : w1.frozen? ⟨w.heap.size + 1, 1, none⟩ = false := by rw [hx1.2 _ _ (by simp)]; simp [go_sem]
      have c6 : Below w.heap.size w w1 := below_after k (by (repeat (first | exact Below.refl _ _ | exact below_new _ _ | refine below_setCell ?_ (by first | (simp; done) | (simp; omega) | omega) | refine below_alloc _ ?_ | refine below_drewN ?_ _ | refine below_after (by assumption) ?_ | assumption)))
      have c7 : w.heap.size + 1 < w1.heap.size := by have := k.size; simp at this; omega
      clear hx1 k
      go_wp2_with fail
      refine (Hd.out _).mono ?_
      rintro e w2 ⟨v, rfl, hown, k2⟩
      have hrow := StrRow.owned hown
      obtain ⟨p0, cap0, hv0, hcap0⟩ := own_cap hown
      clear hown
      replace c0 := cell_step k2 c0
      have f4 := frozen_step k2 c2 c4
      have f5 := frozen_step k2 c3 c5
      replace c2 := cell_step k2 c2
      replace c3 := cell_step k2 c3
      replace c6 := below_after k2 c6
      replace c7 := Nat.lt_of_lt_of_le c7 k2.size
      clear c4 c5 k2
      obtain ⟨p, cap, hv, R⟩ := hrow
      rw [HnL.out] at hv hv0 hcap0
      subst hv
      replace hcap0 : nL ≤ cap := by injection hv0 with _ _ hcc; rw [hcc]; exact hcap0
      clear hv0 p0 cap0
      have R := Lib.hid R
      go_wp2_with fail
      refine (Hw.out _).mono ?_
      rintro e w3 ⟨rfl, rfl⟩
      go_wp2
      refine bodyPost_ret (v := .tuple #[.agg #[.string ⟨#[]⟩, .string ⟨#[]⟩], .bool false]) (by simp [results, Try.results31, go_sem, c2, c3]) rfl ⟨rfl, ?_⟩
      (repeat (first | (with_reducible exact Below.refl _ _) | (with_reducible refine below_setCell ?_ (by first | (simp; done) | (simp; omega) | omega)) | (with_reducible refine below_alloc _ ?_) | (with_reducible refine below_drewN ?_ _) | (with_reducible assumption) | (with_reducible refine below_after (by assumption) ?_)))
    · obtain ⟨hn0, hn1⟩ := Hwi.out rfl
      obtain ⟨m, rfl⟩ := Int.eq_ofNat_of_zero_le hn0
      have hmL : m ≤ nL := by omega
      clear hn0
      rw [Int.toNat_natCast]
      have Hrb := Lib.hid (fun (s : ByteArray) (h : s.size ≤ 4294967296) => frameBytes_any s h)
      go_enter Try.func31, Try.ntmps31
      go_wp2_with fail
      refine (Hc.out _).mono ?_
      rintro e w1 ⟨rfl, k⟩
      have hx1 := bcell k
      have c0 : w1.cell? ⟨w.heap.size, 0, none⟩ = some (.string x) := by rw [hx1.1 _ _ (by simp; omega)]; simp [go_sem]
      have c2 : w1.cell? ⟨w.heap.size + 1, 0, none⟩ = some (.string ⟨#[]⟩) := by rw [hx1.1 _ _ (by simp)]; simp [go_sem]
      have c3 : w1.cell? ⟨w.heap.size + 1, 1, none⟩ = some (.string ⟨#[]⟩) := by rw [hx1.1 _ _ (by simp)]; simp [go_sem]
      have c4 : w1.frozen? ⟨w.heap.size + 1, 0, none⟩ = false := by rw [hx1.2 _ _ (by simp)]; simp [go_sem]
      have c5 : w1.frozen? ⟨w.heap.size + 1, 1, none⟩ = false := by rw [hx1.2 _ _ (by simp)]; simp [go_sem]
      have c6 : Below w.heap.size w w1 := below_after k (by (repeat (first | exact Below.refl _ _ | exact below_new _ _ | refine below_setCell ?_ (by first | (simp; done) | (simp; omega) | omega) | refine below_alloc _ ?_ | refine below_drewN ?_ _ | refine below_after (by assumption) ?_ | assumption)))
      have c7 : w.heap.size + 1 < w1.heap.size := by have := k.size; simp at this; omega
      clear hx1 k
      go_wp2_with fail
      refine (Hd.out _).mono ?_
      rintro e w2 ⟨v, rfl, hown, k2⟩
      have hrow := StrRow.owned hown
      obtain ⟨p0, cap0, hv0, hcap0⟩ := own_cap hown
      clear hown
      replace c0 := cell_step k2 c0
      have f4 := frozen_step k2 c2 c4
      have f5 := frozen_step k2 c3 c5
      replace c2 := cell_step k2 c2
      replace c3 := cell_step k2 c3
      replace c6 := below_after k2 c6
      replace c7 := Nat.lt_of_lt_of_le c7 k2.size
      clear c4 c5 k2
      obtain ⟨p, cap, hv, R⟩ := hrow
      rw [HnL.out] at hv hv0 hcap0
      subst hv
      replace hcap0 : nL ≤ cap := by injection hv0 with _ _ hcc; rw [hcc]; exact hcap0
      clear hv0 p0 cap0
      have R := Lib.hid R
      go_wp2_with fail
      refine (Hw.out _).mono ?_
      rintro e w3 ⟨rfl, rfl⟩
      have hmc : m ≤ cap := by omega
      have hmcI : (m : Int) ≤ (cap : Int) := by omega
      go_wp2
      go_loopw [8, 31] (fun s i wr => ∃ k : Nat, i = .int .i64 (k : Int) ∧ k ≤ m ∧ s = .int .i64 ((catF (L.take k)).size : Int) ∧ Below w2.heap.size w2 wr) (fun _ i _ => m - (intOf i).toNat)
      case atStart => exact ⟨0, rfl, Nat.zero_le _, rfl, Below.refl _ _⟩
      case round =>
        obtain ⟨k, rfl, hk, rfl, hb⟩ := hrel
        by_cases hlt : k < m
        · have hlt2 : (k : Int) < (m : Int) := by omega
          have hkl : k < L.length := by have := HnL.out; omega
          obtain ⟨g, o, rfl, hg, hc⟩ := R.out (by omega)
          have d0 : wr.cell? ⟨g, o + k, none⟩ = some (.string L[k]) := (hb.cell (p := ⟨g, o + k, none⟩) hg).trans (hc k hkl)
          have hz := Hks.out k hkl
          have Ht := Lib.hid (show (catF (L.take (k + 1))).size = (catF (L.take k)).size + (frameB L[k]).size from by rw [List.take_succ_eq_append_getElem hkl, catF_size_snoc])
          have hle := (Hce.out (k + 1) (by omega)).1
          rw [Ht.out] at hle
          obtain ⟨s, es⟩ : ∃ s, L[k] = s := ⟨_, rfl⟩
          rw [es] at d0 hz Ht hle
          have Hf := Lib.hid (Hrb.out s (by omega))
          obtain ⟨t, ht⟩ : ∃ t : Nat, (catF (L.take k)).size = t := ⟨_, rfl⟩
          rw [ht] at Ht hle ⊢
          have hfI : ((frameB s).size : Int) ≤ 1048576 := by omega
          have htI : (t : Int) + ((frameB s).size : Int) ≤ 1048576 := by omega
          clear hc es hkl ht hz
          generalize frameB s = fb at *
          go_wp2_with fail
          refine (Hf.out _).mono ?_
          rintro e w4 ⟨rfl, k4⟩
          go_wp2
          go_roundw
          case rel => exact ⟨k + 1, by go_num, by omega, by rw [Ht.out]; go_num, below_after k4 hb⟩
          case measure => simp [intOf]; omega
        · have hlt2 : (m : Int) ≤ (k : Int) := by omega
          obtain rfl : k = m := by omega
          obtain ⟨h1, h2⟩ := Hce.out k (by have := HnL.out; omega)
          have H2 := Lib.hid h2
          obtain ⟨t, ht⟩ : ∃ t : Nat, (catF (L.take k)).size = t := ⟨_, rfl⟩
          have Ht := Lib.hid ht
          rw [ht] at h1 ⊢
          have h1I : (t : Int) ≤ (x.size : Int) := by omega
          have d0 := cell_step hb c0
          have d2 := cell_step hb c2
          have d3 := cell_step hb c3
          have d4 := frozen_step hb c2 f4
          have d5 := frozen_step hb c3 f5
          have d6 := below_after hb c6
          clear h2 ht c0 c2 c3 f4 f5
          go_wp2
          have hr := set2_cells (W := wr) (b := w.heap.size + 1) (u0 := .string (x.extract 0 t)) (u1 := .string ⟨#[]⟩) (World.cell?_setCell_other _ _ _ _ (by simp) |>.trans (World.cell?_setCell_same _ _ _ d2)) (World.cell?_setCell_same _ _ _ ((World.cell?_setCell_other _ _ _ _ (by simp)).trans d3))
          refine bodyPost_ret (v := .tuple #[.agg #[.string (x.extract 0 t), .string ⟨#[]⟩], .bool true]) (by simp [results, Try.results31, go_sem, hr.1, hr.2]) rfl ⟨by rw [← Ht.out, H2.out]; rfl, ?_⟩
          (repeat (first | (with_reducible exact Below.refl _ _) | (with_reducible refine below_setCell ?_ (by first | (simp; done) | (simp; omega) | omega)) | (with_reducible refine below_alloc _ ?_) | (with_reducible refine below_drewN ?_ _) | (with_reducible assumption) | (with_reducible refine below_after (by assumption) ?_)))

end Go.Proofs.Ytekgackednpdgaa
