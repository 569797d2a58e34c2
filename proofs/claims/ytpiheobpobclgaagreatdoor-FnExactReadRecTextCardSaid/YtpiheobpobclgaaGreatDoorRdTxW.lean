/- spec.l4Word. -/
import Derived.Test.YtpiheobpobclgaaGreatDoorRdTxR
import Derived.Test.YtpiheobpobclgaaGreatDoorNumF
import Derived.Test.YtpiheobpobclgaaGreatDoorSplitS
import Derived.Lib.AppendZeros
namespace Go.Proofs.YtpiheobpobclgaaGreatDoor
open Go.RowKit

theorem spl_ne3 (c : UInt8) : ∀ (l cur : List UInt8), spl c cur l ≠ []
  | [], _ => by simp [spl]
  | b :: r, cur => by
    unfold spl
    split
    · simp
    · exact spl_ne3 c r _
theorem spl_size3 (c : UInt8) : ∀ (l cur : List UInt8), ∀ p ∈ spl c cur l, p.length ≤ cur.length + l.length
  | [], cur, p, h => by
    have h : p ∈ [cur] := h
    rw [List.mem_singleton] at h
    subst h
    exact Nat.le_add_right _ _
  | b :: r, cur, p, h => by
    unfold spl at h
    simp only [List.length_cons]
    split at h
    · rcases List.mem_cons.1 h with rfl | h
      · omega
      · have := spl_size3 c r [] p h
        simp at this
        omega
    · have := spl_size3 c r _ p h
      simp at this
      omega
theorem spl_sizes3 {c : UInt8} {s : ByteArray} {xs : List ByteArray} (h : xs.map (·.data.toList) = spl c [] s.data.toList) {x : ByteArray} (hx : x ∈ xs) : x.size ≤ s.size := by
  have h1 := spl_size3 c s.data.toList [] x.data.toList (by rw [← h]; exact List.mem_map_of_mem hx)
  have h2 : x.data.toList.length = x.size := by rw [Array.length_toList]; rfl
  have h3 : s.data.toList.length = s.size := by rw [Array.length_toList]; rfl
  rw [List.length_nil] at h1
  omega
theorem cut_of (t : ByteArray) : (⟨(t.data.toList.take (t.size - 1)).toArray⟩ : ByteArray) = t.extract 0 (t.size - 1) := bytesInj (by
  rw [ByteArray.data_extract, Array.toList_extract, List.extract_eq_take_drop]
  simp)

/-- What a step leaves. -/
def WordPost (base : Nat) (r : RecD) (w : World) (e : Ending) (w' : World) : Prop := ∃ pR cR pW cW, e = .returned (.agg #[.int .i64 r.Kind, .int .i64 r.Txn, .int .i64 r.Time, .int .i64 r.Lead, .slice pR r.Reads.length cR, .slice pW r.Writes.length cW, .bool r.Yes]) ∧ RowsOf w' base (.slice pR r.Reads.length cR) (.slice pW r.Writes.length cW) r.Reads r.Writes ∧ Below base w w'
theorem word_post {base : Nat} {r : RecD} {w w' : World} {K T Ti L : Int} {R : List ByteArray} {W : List WriteD} {Y : Bool} {pR pW : Option Addr} {nR nW cR cW : Nat} (he : r = ⟨K, T, Ti, L, R, W, Y⟩) (hR : R.length = nR) (hW : W.length = nW) (h : RowsOf w' base (.slice pR nR cR) (.slice pW nW cW) R W) (hb : Below base w w') :
    WordPost base r w (.returned (.agg #[.int .i64 K, .int .i64 T, .int .i64 Ti, .int .i64 L, .slice pR nR cR, .slice pW nW cW, .bool Y])) w' := by
  subst he hR hW
  exact ⟨pR, cR, pW, cW, rfl, h, hb⟩
theorem below_base {base : Nat} {w w' : World} (h : Below w.heap.size w w') (hb : base ≤ w.heap.size) : Below base w w' := h.mono hb

set_option maxRecDepth 100000 in
set_option maxHeartbeats 6400000 in
/-- spec.l4Word -/
theorem l4Word_any (K T Ti L : Int) (R : List ByteArray) (W : List WriteD) (Y : Bool) (s : ByteArray) (hs : s.size ≤ 400) (hR : R.length ≤ 1000) (hW : W.length ≤ 1000) (w : World) (base : Nat) (hb : base ≤ w.heap.size) (pR pW : Option Addr) (cR cW : Nat) (h : RowsOf w base (.slice pR R.length cR) (.slice pW W.length cW) R W) :
    Calls Tryz.prog 12 #[.agg #[.int .i64 K, .int .i64 T, .int .i64 Ti, .int .i64 L, .slice pR R.length cR, .slice pW W.length cW, .bool Y], .string s] w (WordPost base (stepS ⟨K, T, Ti, L, R, W, Y⟩ s) w) := by
  have H := Lib.hid h
  obtain ⟨nR, hnR⟩ : ∃ n, R.length = n := ⟨_, rfl⟩
  obtain ⟨nW, hnW⟩ : ∃ n, W.length = n := ⟨_, rfl⟩
  rw [hnR] at H hR ⊢
  rw [hnW] at H hW ⊢
  have HnR := Lib.hid hnR
  have HnW := Lib.hid hnW
  obtain ⟨r, hr⟩ : ∃ r, stepS ⟨K, T, Ti, L, R, W, Y⟩ s = r := ⟨_, rfl⟩
  have Hr := Lib.hid hr
  rw [hr]
  clear h hnR hnW hr
  by_cases he : s = ⟨#[]⟩
  · subst he
    have Hr2 : Hid (r = ⟨K, T, Ti, L, R, W, Y⟩) := Lib.hid Hr.out.symm
    clear hs Hr
    go_enter Tryz.func12, Tryz.ntmps12
    go_wp2
    refine bodyPost_ret (v := .agg #[.int .i64 K, .int .i64 T, .int .i64 Ti, .int .i64 L, .slice pR nR cR, .slice pW nW cW, .bool Y]) (by simp [results, Tryz.results12, go_sem]) rfl ?_
    exact word_post Hr2.out HnR.out HnW.out (H.out.below (by (repeat (first | (with_reducible exact Below.refl _ _) | (with_reducible refine below_setCell ?_ (by first | (simp; done) | (simp; omega) | omega)) | (with_reducible refine below_alloc _ ?_) | (with_reducible refine below_drewN ?_ _) | (with_reducible assumption) | (with_reducible refine below_after (by assumption) ?_))))) (below_base (by (repeat (first | (with_reducible exact Below.refl _ _) | (with_reducible refine below_setCell ?_ (by first | (simp; done) | (simp; omega) | omega)) | (with_reducible refine below_alloc _ ?_) | (with_reducible refine below_drewN ?_ _) | (with_reducible assumption) | (with_reducible refine below_after (by assumption) ?_)))) hb)
  have hne1 : (s.toList == (⟨#[]⟩ : ByteArray).toList) = false := str_ne he
  have hne2 : s.toList.isEmpty = false := someOf fun h => he (nilOf h)
  have hp : 0 < s.size := Nat.pos_of_ne_zero fun h => he (nilOf h)
  have hpI : (0 : Int) < (s.size : Int) := by omega
  have hpI1 : (1 : Int) ≤ (s.size : Int) := by omega
  have hsI : (s.size : Int) ≤ 400 := by omega
  have hz8 : ((s[0]'hp).toNat : Int) = ((s[0]'hp).toNat : Int) := rfl
  have Hst := Lib.hid (fun (z : Int) (hz : ((s[0]'hp).toNat : Int) = z) => stepS_of (s := s) ⟨K, T, Ti, L, R, W, Y⟩ hp hz)
  have Ht : Hid ((s.extract 1 s.size).size ≤ 400) := Lib.hid (by rw [ByteArray.size_extract]; omega)
  clear hz8 hs
  go_enter Tryz.func12, Tryz.ntmps12
  go_upto_region 5 with fail
  generalize s.extract 1 s.size = t at *
  generalize hz : ((s[0]'hp).toNat : Int) = z
  have hst := Hst.out z hz
  rw [Hr.out] at hst
  clear Hst Hr hz
  by_cases z64 : z = 64
  · subst z64
    have Hr2 : Hid (r = ⟨K, T, readD t.data.toList, L, R, W, isYes K⟩) := Lib.hid hst
    have Hrd := Lib.hid (fun W => l1Read_any t (by have := Ht.out; omega) W)
    clear hst
    generalize readD t.data.toList = D at *
    go_wp2_with fail
    refine (Hrd.out _).mono ?_
    rintro e w1 ⟨rfl, rfl⟩
    clear Hrd
    by_cases k2 : K = 2
    · subst k2
      go_wp2
      refine bodyPost_ret (v := .agg #[.int .i64 2, .int .i64 T, .int .i64 D, .int .i64 L, .slice pR nR cR, .slice pW nW cW, .bool true]) (by simp [results, Tryz.results12, go_sem]) rfl ?_
      exact word_post Hr2.out HnR.out HnW.out (H.out.below (by (repeat (first | (with_reducible exact Below.refl _ _) | (with_reducible refine below_setCell ?_ (by first | (simp; done) | (simp; omega) | omega)) | (with_reducible refine below_alloc _ ?_) | (with_reducible refine below_drewN ?_ _) | (with_reducible assumption) | (with_reducible refine below_after (by assumption) ?_))))) (below_base (by (repeat (first | (with_reducible exact Below.refl _ _) | (with_reducible refine below_setCell ?_ (by first | (simp; done) | (simp; omega) | omega)) | (with_reducible refine below_alloc _ ?_) | (with_reducible refine below_drewN ?_ _) | (with_reducible assumption) | (with_reducible refine below_after (by assumption) ?_)))) hb)
    by_cases k3 : K = 3
    · subst k3
      go_wp2
      refine bodyPost_ret (v := .agg #[.int .i64 3, .int .i64 T, .int .i64 D, .int .i64 L, .slice pR nR cR, .slice pW nW cW, .bool true]) (by simp [results, Tryz.results12, go_sem]) rfl ?_
      exact word_post Hr2.out HnR.out HnW.out (H.out.below (by (repeat (first | (with_reducible exact Below.refl _ _) | (with_reducible refine below_setCell ?_ (by first | (simp; done) | (simp; omega) | omega)) | (with_reducible refine below_alloc _ ?_) | (with_reducible refine below_drewN ?_ _) | (with_reducible assumption) | (with_reducible refine below_after (by assumption) ?_))))) (below_base (by (repeat (first | (with_reducible exact Below.refl _ _) | (with_reducible refine below_setCell ?_ (by first | (simp; done) | (simp; omega) | omega)) | (with_reducible refine below_alloc _ ?_) | (with_reducible refine below_drewN ?_ _) | (with_reducible assumption) | (with_reducible refine below_after (by assumption) ?_)))) hb)
    have b2 : (K == 2) = false := by simpa using k2
    have b3 : (K == 3) = false := by simpa using k3
    have Hr3 : Hid (r = ⟨K, T, D, L, R, W, false⟩) := Lib.hid (by rw [Hr2.out]; unfold isYes; simp [k2, k3])
    clear k2 k3 Hr2
    go_wp2
    refine bodyPost_ret (v := .agg #[.int .i64 K, .int .i64 T, .int .i64 D, .int .i64 L, .slice pR nR cR, .slice pW nW cW, .bool false]) (by simp [results, Tryz.results12, go_sem]) rfl ?_
    exact word_post Hr3.out HnR.out HnW.out (H.out.below (by (repeat (first | (with_reducible exact Below.refl _ _) | (with_reducible refine below_setCell ?_ (by first | (simp; done) | (simp; omega) | omega)) | (with_reducible refine below_alloc _ ?_) | (with_reducible refine below_drewN ?_ _) | (with_reducible assumption) | (with_reducible refine below_after (by assumption) ?_))))) (below_base (by (repeat (first | (with_reducible exact Below.refl _ _) | (with_reducible refine below_setCell ?_ (by first | (simp; done) | (simp; omega) | omega)) | (with_reducible refine below_alloc _ ?_) | (with_reducible refine below_drewN ?_ _) | (with_reducible assumption) | (with_reducible refine below_after (by assumption) ?_)))) hb)
  have y64 : (z == 64) = false := by simpa using z64
  rw [if_neg z64] at hst
  clear z64
  by_cases z62 : z = 62
  · subst z62
    have Hr2 : Hid (r = ⟨K, T, Ti, readD t.data.toList, R, W, Y⟩) := Lib.hid hst
    have Hrd := Lib.hid (fun W => l1Read_any t (by have := Ht.out; omega) W)
    clear hst
    generalize readD t.data.toList = D at *
    go_wp2_with fail
    refine (Hrd.out _).mono ?_
    rintro e w1 ⟨rfl, rfl⟩
    clear Hrd
    go_wp2
    refine bodyPost_ret (v := .agg #[.int .i64 K, .int .i64 T, .int .i64 Ti, .int .i64 D, .slice pR nR cR, .slice pW nW cW, .bool Y]) (by simp [results, Tryz.results12, go_sem]) rfl ?_
    exact word_post Hr2.out HnR.out HnW.out (H.out.below (by (repeat (first | (with_reducible exact Below.refl _ _) | (with_reducible refine below_setCell ?_ (by first | (simp; done) | (simp; omega) | omega)) | (with_reducible refine below_alloc _ ?_) | (with_reducible refine below_drewN ?_ _) | (with_reducible assumption) | (with_reducible refine below_after (by assumption) ?_))))) (below_base (by (repeat (first | (with_reducible exact Below.refl _ _) | (with_reducible refine below_setCell ?_ (by first | (simp; done) | (simp; omega) | omega)) | (with_reducible refine below_alloc _ ?_) | (with_reducible refine below_drewN ?_ _) | (with_reducible assumption) | (with_reducible refine below_after (by assumption) ?_)))) hb)
  have y62 : (z == 62) = false := by simpa using z62
  rw [if_neg z62] at hst
  clear z62
  by_cases z63 : z = 63
  · subst z63
    have Hr2 : Hid (r = ⟨K, T, Ti, L, R ++ [t], W, Y⟩) := Lib.hid hst
    clear hst
    go_upto_region 11 with fail
    generalize hw5 : World.alloc _ _ = w5
    have BX5 : Blk w5 w.heap.size 25 #[.int .i64 K, .int .i64 T, .int .i64 Ti, .int .i64 L, .slice pR nR cR, .slice pW nW cW, .bool Y] := by rw [← hw5]; exact (Blk.new _ _ _).alloc _
    have BZ5 : Blk w5 (w.heap.size + 1) 25 #[.int .i64 0, .int .i64 0, .int .i64 0, .int .i64 0, .slice none 0 0, .slice none 0 0, .bool false] := by
      have h1 := Blk.new (w.alloc (.cells #[.int .i64 K, .int .i64 T, .int .i64 Ti, .int .i64 L, .slice pR nR cR, .slice pW nW cW, .bool Y] 25)) 25 #[.int .i64 0, .int .i64 0, .int .i64 0, .int .i64 0, .slice none 0 0, .slice none 0 0, .bool false]
      rw [hw5, show (w.alloc (.cells #[.int .i64 K, .int .i64 T, .int .i64 Ti, .int .i64 L, .slice pR nR cR, .slice pW nW cW, .bool Y] 25)).heap.size = w.heap.size + 1 from by simp] at h1
      exact h1
    have b5 : Below w.heap.size w w5 := by rw [← hw5]; (repeat (first | (with_reducible exact Below.refl _ _) | (with_reducible refine below_setCell ?_ (by first | (simp; done) | (simp; omega) | omega)) | (with_reducible refine below_alloc _ ?_) | (with_reducible refine below_drewN ?_ _) | (with_reducible assumption) | (with_reducible refine below_after (by assumption) ?_)))
    clear hw5
    obtain ⟨p7, c7, w7, hrun, hrow, hg7, hb7⟩ := app_key 22 H.out (by rw [HnR.out]; omega) hb (s := t) (by have := Ht.out; unfold maxLen; omega) (wb := w5.alloc (.cells #[.string t] 9)) (below_alloc _ b5) (Blk.new w5 9 #[.string t])
    rw [HnR.out] at hrun hrow
    have BX7 : Blk w7 w.heap.size 25 #[.int .i64 K, .int .i64 T, .int .i64 Ti, .int .i64 L, .slice pR nR cR, .slice pW nW cW, .bool Y] := (BX5.alloc _).grownV hg7 H.out.lt.1 (Nat.le_refl _)
    have BZ7 : Blk w7 (w.heap.size + 1) 25 #[.int .i64 0, .int .i64 0, .int .i64 0, .int .i64 0, .slice none 0 0, .slice none 0 0, .bool false] := (BZ5.alloc _).grownV hg7 H.out.lt.1 (Nat.le_succ _)
    have b7 : Below base w w7 := ((below_alloc _ b5).mono hb).trans hb7
    have Hrow := Lib.hid hrow
    have e4 := BX5.cell 4 (v := .slice pR nR cR) rfl
    clear hg7 hb7 hrow
    have x4 := BX7.cell 4 (v := .slice pR nR cR) rfl
    have f4 := BX7.frozen 4
    have hsz0 := BX7.lt
    go_upto_region 22 with (at_builtin; go_must (refine Lib.wpList_append_run _ rfl _ _ 22 22 rfl _ _ rfl rfl _ w7 hrun ?_))
    clear hrun e4 BX5 BZ5 x4 f4 hsz0
    generalize hw8 : World.setCell _ _ _ = w8
    have BX8 : Blk w8 w.heap.size 25 #[.int .i64 K, .int .i64 T, .int .i64 Ti, .int .i64 L, .slice p7 (nR + 1) c7, .slice pW nW cW, .bool Y] := by rw [← hw8]; have := BX7.set 4 (.slice p7 (nR + 1) c7); simpa using this
    have BZ8 : Blk w8 (w.heap.size + 1) 25 #[.int .i64 0, .int .i64 0, .int .i64 0, .int .i64 0, .slice none 0 0, .slice none 0 0, .bool false] := by rw [← hw8]; exact BZ7.other _ _ (by omega)
    have b8 : Below base w w8 := by rw [← hw8]; exact b7.setCell hb _
    have Hrow8 := rows_twain Hrow.out BX7 BZ7 (w' := w8) (by rw [← hw8]; exact Twain.set (Twain.refl _ _ _) (Or.inl rfl))
    have HR8 := Lib.hid Hrow8
    clear hw8 Hrow8 Hrow BX7 BZ7 b7
    have x0 := BX8.cell 0 (v := .int .i64 K) rfl
    have x1 := BX8.cell 1 (v := .int .i64 T) rfl
    have x2 := BX8.cell 2 (v := .int .i64 Ti) rfl
    have x3 := BX8.cell 3 (v := .int .i64 L) rfl
    have x4 := BX8.cell 4 (v := .slice p7 (nR + 1) c7) rfl
    have x5 := BX8.cell 5 (v := .slice pW nW cW) rfl
    have x6 := BX8.cell 6 (v := .bool Y) rfl
    have f0 := BX8.frozen 0
    have f1 := BX8.frozen 1
    have f2 := BX8.frozen 2
    have f3 := BX8.frozen 3
    have f4 := BX8.frozen 4
    have f5 := BX8.frozen 5
    have f6 := BX8.frozen 6
    have z0 := BZ8.cell 0 (v := .int .i64 0) rfl
    have z1 := BZ8.cell 1 (v := .int .i64 0) rfl
    have z2 := BZ8.cell 2 (v := .int .i64 0) rfl
    have z3 := BZ8.cell 3 (v := .int .i64 0) rfl
    have z4 := BZ8.cell 4 (v := .slice none 0 0) rfl
    have z5 := BZ8.cell 5 (v := .slice none 0 0) rfl
    have z6 := BZ8.cell 6 (v := .bool false) rfl
    have g0 := BZ8.frozen 0
    have g1 := BZ8.frozen 1
    have g2 := BZ8.frozen 2
    have g3 := BZ8.frozen 3
    have g4 := BZ8.frozen 4
    have g5 := BZ8.frozen 5
    have g6 := BZ8.frozen 6
    go_wp2
    clear x0 f0 z0 g0 x1 f1 z1 g1 x2 f2 z2 g2 x3 f3 z3 g3 x4 f4 z4 g4 x5 f5 z5 g5 x6 f6 z6 g6
    generalize hw9 : World.setCell _ _ _ = w9
    have BZ9 : Blk w9 (w.heap.size + 1) 25 #[.int .i64 K, .int .i64 T, .int .i64 Ti, .int .i64 L, .slice p7 (nR + 1) c7, .slice pW nW cW, .bool Y] := by rw [← hw9]; have := (((((((BZ8.set 0 (.int .i64 K)).set 1 (.int .i64 T)).set 2 (.int .i64 Ti)).set 3 (.int .i64 L)).set 4 (.slice p7 (nR + 1) c7)).set 5 (.slice pW nW cW)).set 6 (.bool Y)); simpa using this
    have b9 : Below base w w9 := by rw [← hw9]; exact (((((((b8.setCell (Nat.le_succ_of_le hb) _).setCell (Nat.le_succ_of_le hb) _).setCell (Nat.le_succ_of_le hb) _).setCell (Nat.le_succ_of_le hb) _).setCell (Nat.le_succ_of_le hb) _).setCell (Nat.le_succ_of_le hb) _).setCell (Nat.le_succ_of_le hb) _)
    have HR9 := rows_twain HR8.out BX8 BZ8 (w' := w9) (by rw [← hw9]; exact (Twain.set (Twain.set (Twain.set (Twain.set (Twain.set (Twain.set (Twain.set (Twain.refl _ _ _) (Or.inr rfl)) (Or.inr rfl)) (Or.inr rfl)) (Or.inr rfl)) (Or.inr rfl)) (Or.inr rfl)) (Or.inr rfl)))
    clear hw9
    have z0 := BZ9.cell 0 (v := .int .i64 K) rfl
    have z1 := BZ9.cell 1 (v := .int .i64 T) rfl
    have z2 := BZ9.cell 2 (v := .int .i64 Ti) rfl
    have z3 := BZ9.cell 3 (v := .int .i64 L) rfl
    have z4 := BZ9.cell 4 (v := .slice p7 (nR + 1) c7) rfl
    have z5 := BZ9.cell 5 (v := .slice pW nW cW) rfl
    have z6 := BZ9.cell 6 (v := .bool Y) rfl
    have g0 := BZ9.frozen 0
    have g1 := BZ9.frozen 1
    have g2 := BZ9.frozen 2
    have g3 := BZ9.frozen 3
    have g4 := BZ9.frozen 4
    have g5 := BZ9.frozen 5
    have g6 := BZ9.frozen 6
    refine bodyPost_ret (v := .agg #[.int .i64 K, .int .i64 T, .int .i64 Ti, .int .i64 L, .slice p7 (nR + 1) c7, .slice pW nW cW, .bool Y]) (by simp [results, Tryz.results12, go_sem, z0, g0, z1, g1, z2, g2, z3, g3, z4, g4, z5, g5, z6, g6]) rfl ?_
    exact word_post Hr2.out (by rw [List.length_append, HnR.out]; rfl) HnW.out HR9 b9
  have y63 : (z == 63) = false := by simpa using z63
  rw [if_neg z63] at hst
  clear z63
  by_cases z33 : z = 33
  · subst z33
    have Hr2 : Hid (r = ⟨K, T, Ti, L, R, W ++ [wrS t], Y⟩) := Lib.hid hst
    clear hst
    have Hsp := Lib.hid (fun W => l1Split_any t 61 Ht.out W)
    rw [show (((61 : UInt8).toNat : Nat) : Int) = 61 from rfl] at Hsp
    go_wp2_with fail
    refine (Hsp.out _).mono ?_
    rintro e w1 ⟨v1, xs, rfl, o1, hx, k1⟩
    have BX1 : Blk w1 w.heap.size 25 #[.int .i64 K, .int .i64 T, .int .i64 Ti, .int .i64 L, .slice pR nR cR, .slice pW nW cW, .bool Y] := ((Blk.new _ _ _).alloc _).below k1
    have BZ1 : Blk w1 (w.heap.size + 1) 25 #[.int .i64 0, .int .i64 0, .int .i64 0, .int .i64 0, .slice none 0 0, .slice none 0 0, .bool false] := by
      have h1 := Blk.new (w.alloc (.cells #[.int .i64 K, .int .i64 T, .int .i64 Ti, .int .i64 L, .slice pR nR cR, .slice pW nW cW, .bool Y] 25)) 25 #[.int .i64 0, .int .i64 0, .int .i64 0, .int .i64 0, .slice none 0 0, .slice none 0 0, .bool false]
      rw [show (w.alloc (.cells #[.int .i64 K, .int .i64 T, .int .i64 Ti, .int .i64 L, .slice pR nR cR, .slice pW nW cW, .bool Y] 25)).heap.size = w.heap.size + 1 from by simp] at h1
      exact h1.below k1
    have b1 : Below w.heap.size w w1 := below_after k1 (by (repeat (first | (with_reducible exact Below.refl _ _) | (with_reducible refine below_setCell ?_ (by first | (simp; done) | (simp; omega) | omega)) | (with_reducible refine below_alloc _ ?_) | (with_reducible refine below_drewN ?_ _) | (with_reducible assumption) | (with_reducible refine below_after (by assumption) ?_))))
    have hn0 : 0 < xs.length := List.length_pos_iff.2 fun e => by subst e; exact spl_ne3 _ _ _ hx.symm
    obtain ⟨p1, c1, hv, r1⟩ := o1.rd.strRow
    obtain ⟨g, o, rfl, hg, hc⟩ := r1 hn0
    have Hxs : Hid (∀ x ∈ xs, x.size ≤ maxLen) := Lib.hid fun x hx' => Nat.le_trans (Nat.le_trans (spl_sizes3 hx hx') Ht.out) (by unfold maxLen; omega)
    have Hxd : Hid ((spl 61 [] t.data.toList).length = xs.length ∧ ∀ j, ∀ h : j < xs.length, (⟨((spl 61 [] t.data.toList).getD j []).toArray⟩ : ByteArray) = xs[j]) := Lib.hid (by rw [← hx]; exact ⟨by simp, fun j h => by simp [List.getD_eq_getElem?_getD, h, mk_list]⟩)
    obtain ⟨u, hu⟩ : ∃ u, xs[0] = u := ⟨_, rfl⟩
    have hc0 : w1.cell? ⟨g, o, none⟩ = some (.string u) := by have := hc 0 hn0; rw [hu] at this; simpa using this
    have Hu : Hid (u.size ≤ maxLen) := Lib.hid (Hxs.out u (by rw [← hu]; exact List.getElem_mem _))
    obtain ⟨n, hn⟩ : ∃ n, xs.length = n := ⟨_, rfl⟩
    have Hn := Lib.hid hn
    have hnb : n ≤ 401 := by
      have h1 := spl_length 61 t.data.toList []
      have h2 : t.data.toList.length = t.size := by rw [Array.length_toList]; rfl
      have := Hxd.out.1
      have := Ht.out
      omega
    rw [hn] at hv hn0
    subst hv
    have hgz : g < w1.heap.size := hg
    have z1 : w.heap.size + 1 < w1.heap.size := BZ1.lt
    have hnI : (0 : Int) < (n : Int) := by omega
    have hnI2 : (n : Int) ≤ 401 := by omega
    have He0 : (0 : Nat) < (⟨#[]⟩ : ByteArray).size + 1 := by decide
    clear r1 o1 hx k1 Hsp hn
    by_cases n2 : n = 2
    · subst n2
      obtain ⟨v, hv⟩ : ∃ v, xs[1]'(by have := Hn.out; omega) = v := ⟨_, rfl⟩
      have hc1 : w1.cell? ⟨g, o + 1, none⟩ = some (.string v) := by have := hc 1 (by have := Hn.out; omega); rw [hv] at this; exact this
      have Hk := Hu
      have Hv : Hid (v.size ≤ maxLen) := Lib.hid (Hxs.out v (by rw [← hv]; exact List.getElem_mem _))
      have Hr3 : Hid (r = ⟨K, T, Ti, L, R, W ++ [⟨u, v, false⟩], Y⟩) := Lib.hid (by
        rw [Hr2.out]
        unfold wrS
        rw [if_pos (Hxd.out.1.trans Hn.out), Hxd.out.2 0 (by have := Hn.out; omega), Hxd.out.2 1 (by have := Hn.out; omega), hu, hv])
      clear hc hu hv Hr2 Hxd Hxs Hu
      go_upto_region 21 with fail
      generalize hw5 : World.alloc _ _ = w5
      have BX5 : Blk w5 w.heap.size 25 #[.int .i64 K, .int .i64 T, .int .i64 Ti, .int .i64 L, .slice pR nR cR, .slice pW nW cW, .bool Y] := by rw [← hw5]; exact BX1.alloc _
      have BZ5 : Blk w5 (w.heap.size + 1) 25 #[.int .i64 0, .int .i64 0, .int .i64 0, .int .i64 0, .slice none 0 0, .slice none 0 0, .bool false] := by rw [← hw5]; exact BZ1.alloc _
      have BW5 : Blk w5 w1.heap.size 45 #[.string u, .string v, .bool false] := by rw [← hw5]; exact Blk.new w1 45 #[.string u, .string v, .bool false]
      have b5 : Below w.heap.size w w5 := by rw [← hw5]; (repeat (first | (with_reducible exact Below.refl _ _) | (with_reducible refine below_setCell ?_ (by first | (simp; done) | (simp; omega) | omega)) | (with_reducible refine below_alloc _ ?_) | (with_reducible refine below_drewN ?_ _) | (with_reducible assumption) | (with_reducible refine below_after (by assumption) ?_)))
      clear hw5 BX1 BZ1
      obtain ⟨p7, c7, w7, hrun, hrow, hg7, hb7⟩ := app_write 23 H.out (by rw [HnW.out]; omega) hb (x := ⟨u, v, false⟩) Hk.out Hv.out (wb := w5.alloc (.cells #[.string u, .string v, .bool false] 45)) (below_alloc _ b5) (Blk.new w5 45 _)
      rw [HnW.out] at hrun hrow
      have BX7 : Blk w7 w.heap.size 25 #[.int .i64 K, .int .i64 T, .int .i64 Ti, .int .i64 L, .slice pR nR cR, .slice pW nW cW, .bool Y] := (BX5.alloc _).grownV hg7 H.out.lt.2 (Nat.le_refl _)
      have BZ7 : Blk w7 (w.heap.size + 1) 25 #[.int .i64 0, .int .i64 0, .int .i64 0, .int .i64 0, .slice none 0 0, .slice none 0 0, .bool false] := (BZ5.alloc _).grownV hg7 H.out.lt.2 (Nat.le_succ _)
      have b7 : Below base w w7 := ((below_alloc _ b5).mono hb).trans hb7
      have Hrow := Lib.hid hrow
      have e5 := BX5.cell 5 (v := .slice pW nW cW) rfl
      have e6 := BW5.cell 0 (v := .string u) rfl
      have e7 := BW5.cell 1 (v := .string v) rfl
      have e8 := BW5.cell 2 (v := .bool false) rfl
      clear hg7 hb7 hrow Hk Hv
      have x5 := BX7.cell 5 (v := .slice pW nW cW) rfl
      have f5 := BX7.frozen 5
      have hsz0 := BX7.lt
      go_upto_region 22 with (at_builtin; go_must (refine Lib.wpList_append_run _ rfl _ _ 23 23 rfl _ _ rfl rfl _ w7 hrun ?_))
      clear hrun e5 e6 e7 e8 BX5 BZ5 BW5 x5 f5 hsz0
      generalize hw8 : World.setCell _ _ _ = w8
      have BX8 : Blk w8 w.heap.size 25 #[.int .i64 K, .int .i64 T, .int .i64 Ti, .int .i64 L, .slice pR nR cR, .slice p7 (nW + 1) c7, .bool Y] := by rw [← hw8]; have := BX7.set 5 (.slice p7 (nW + 1) c7); simpa using this
      have BZ8 : Blk w8 (w.heap.size + 1) 25 #[.int .i64 0, .int .i64 0, .int .i64 0, .int .i64 0, .slice none 0 0, .slice none 0 0, .bool false] := by rw [← hw8]; exact BZ7.other _ _ (by omega)
      have b8 : Below base w w8 := by rw [← hw8]; exact b7.setCell hb _
      have Hrow8 := rows_twain Hrow.out BX7 BZ7 (w' := w8) (by rw [← hw8]; exact Twain.set (Twain.refl _ _ _) (Or.inl rfl))
      have HR8 := Lib.hid Hrow8
      clear hw8 Hrow8 Hrow BX7 BZ7 b7
      have x0 := BX8.cell 0 (v := .int .i64 K) rfl
      have x1 := BX8.cell 1 (v := .int .i64 T) rfl
      have x2 := BX8.cell 2 (v := .int .i64 Ti) rfl
      have x3 := BX8.cell 3 (v := .int .i64 L) rfl
      have x4 := BX8.cell 4 (v := .slice pR nR cR) rfl
      have x5 := BX8.cell 5 (v := .slice p7 (nW + 1) c7) rfl
      have x6 := BX8.cell 6 (v := .bool Y) rfl
      have f0 := BX8.frozen 0
      have f1 := BX8.frozen 1
      have f2 := BX8.frozen 2
      have f3 := BX8.frozen 3
      have f4 := BX8.frozen 4
      have f5 := BX8.frozen 5
      have f6 := BX8.frozen 6
      have z0 := BZ8.cell 0 (v := .int .i64 0) rfl
      have z1 := BZ8.cell 1 (v := .int .i64 0) rfl
      have z2 := BZ8.cell 2 (v := .int .i64 0) rfl
      have z3 := BZ8.cell 3 (v := .int .i64 0) rfl
      have z4 := BZ8.cell 4 (v := .slice none 0 0) rfl
      have z5 := BZ8.cell 5 (v := .slice none 0 0) rfl
      have z6 := BZ8.cell 6 (v := .bool false) rfl
      have g0 := BZ8.frozen 0
      have g1 := BZ8.frozen 1
      have g2 := BZ8.frozen 2
      have g3 := BZ8.frozen 3
      have g4 := BZ8.frozen 4
      have g5 := BZ8.frozen 5
      have g6 := BZ8.frozen 6
      go_wp2
      clear x0 f0 z0 g0 x1 f1 z1 g1 x2 f2 z2 g2 x3 f3 z3 g3 x4 f4 z4 g4 x5 f5 z5 g5 x6 f6 z6 g6
      generalize hw9 : World.setCell _ _ _ = w9
      have BZ9 : Blk w9 (w.heap.size + 1) 25 #[.int .i64 K, .int .i64 T, .int .i64 Ti, .int .i64 L, .slice pR nR cR, .slice p7 (nW + 1) c7, .bool Y] := by rw [← hw9]; have := (((((((BZ8.set 0 (.int .i64 K)).set 1 (.int .i64 T)).set 2 (.int .i64 Ti)).set 3 (.int .i64 L)).set 4 (.slice pR nR cR)).set 5 (.slice p7 (nW + 1) c7)).set 6 (.bool Y)); simpa using this
      have b9 : Below base w w9 := by rw [← hw9]; exact (((((((b8.setCell (Nat.le_succ_of_le hb) _).setCell (Nat.le_succ_of_le hb) _).setCell (Nat.le_succ_of_le hb) _).setCell (Nat.le_succ_of_le hb) _).setCell (Nat.le_succ_of_le hb) _).setCell (Nat.le_succ_of_le hb) _).setCell (Nat.le_succ_of_le hb) _)
      have HR9 := rows_twain HR8.out BX8 BZ8 (w' := w9) (by rw [← hw9]; exact (Twain.set (Twain.set (Twain.set (Twain.set (Twain.set (Twain.set (Twain.set (Twain.refl _ _ _) (Or.inr rfl)) (Or.inr rfl)) (Or.inr rfl)) (Or.inr rfl)) (Or.inr rfl)) (Or.inr rfl)) (Or.inr rfl)))
      clear hw9
      have z0 := BZ9.cell 0 (v := .int .i64 K) rfl
      have z1 := BZ9.cell 1 (v := .int .i64 T) rfl
      have z2 := BZ9.cell 2 (v := .int .i64 Ti) rfl
      have z3 := BZ9.cell 3 (v := .int .i64 L) rfl
      have z4 := BZ9.cell 4 (v := .slice pR nR cR) rfl
      have z5 := BZ9.cell 5 (v := .slice p7 (nW + 1) c7) rfl
      have z6 := BZ9.cell 6 (v := .bool Y) rfl
      have g0 := BZ9.frozen 0
      have g1 := BZ9.frozen 1
      have g2 := BZ9.frozen 2
      have g3 := BZ9.frozen 3
      have g4 := BZ9.frozen 4
      have g5 := BZ9.frozen 5
      have g6 := BZ9.frozen 6
      refine bodyPost_ret (v := .agg #[.int .i64 K, .int .i64 T, .int .i64 Ti, .int .i64 L, .slice pR nR cR, .slice p7 (nW + 1) c7, .bool Y]) (by simp [results, Tryz.results12, go_sem, z0, g0, z1, g1, z2, g2, z3, g3, z4, g4, z5, g5, z6, g6]) rfl ?_
      exact word_post Hr3.out HnR.out (by rw [List.length_append, HnW.out]; rfl) HR9 b9
    have n2I : ((n : Int) == 2) = false := by simp; omega
    by_cases t0 : t.size = 0
    · have t0I : ¬ (0 : Int) < (t.size : Int) := by omega
      have Hk := Hu
      have Hv : Hid ((⟨#[]⟩ : ByteArray).size ≤ maxLen) := Lib.hid (Nat.zero_le _)
      have Hr3 : Hid (r = ⟨K, T, Ti, L, R, W ++ [⟨u, ⟨#[]⟩, false⟩], Y⟩) := Lib.hid (by
        rw [Hr2.out]
        unfold wrS
        rw [if_neg (by rw [Hxd.out.1, Hn.out]; exact n2), if_neg (by omega), Hxd.out.2 0 (by have := Hn.out; omega), hu])
      have t0' : (t.size : Int) = 0 := by omega
      clear hc hu Hr2 Hxd Hxs Hu n2
      go_upto_region 21 with fail
      generalize hw5 : World.alloc _ _ = w5
      have BX5 : Blk w5 w.heap.size 25 #[.int .i64 K, .int .i64 T, .int .i64 Ti, .int .i64 L, .slice pR nR cR, .slice pW nW cW, .bool Y] := by rw [← hw5]; exact BX1.alloc _
      have BZ5 : Blk w5 (w.heap.size + 1) 25 #[.int .i64 0, .int .i64 0, .int .i64 0, .int .i64 0, .slice none 0 0, .slice none 0 0, .bool false] := by rw [← hw5]; exact BZ1.alloc _
      have BW5 : Blk w5 w1.heap.size 45 #[.string u, .string ⟨#[]⟩, .bool false] := by rw [← hw5]; exact Blk.new w1 45 #[.string u, .string ⟨#[]⟩, .bool false]
      have b5 : Below w.heap.size w w5 := by rw [← hw5]; (repeat (first | (with_reducible exact Below.refl _ _) | (with_reducible refine below_setCell ?_ (by first | (simp; done) | (simp; omega) | omega)) | (with_reducible refine below_alloc _ ?_) | (with_reducible refine below_drewN ?_ _) | (with_reducible assumption) | (with_reducible refine below_after (by assumption) ?_)))
      clear hw5 BX1 BZ1
      obtain ⟨p7, c7, w7, hrun, hrow, hg7, hb7⟩ := app_write 23 H.out (by rw [HnW.out]; omega) hb (x := ⟨u, ⟨#[]⟩, false⟩) Hk.out Hv.out (wb := w5.alloc (.cells #[.string u, .string ⟨#[]⟩, .bool false] 45)) (below_alloc _ b5) (Blk.new w5 45 _)
      rw [HnW.out] at hrun hrow
      have BX7 : Blk w7 w.heap.size 25 #[.int .i64 K, .int .i64 T, .int .i64 Ti, .int .i64 L, .slice pR nR cR, .slice pW nW cW, .bool Y] := (BX5.alloc _).grownV hg7 H.out.lt.2 (Nat.le_refl _)
      have BZ7 : Blk w7 (w.heap.size + 1) 25 #[.int .i64 0, .int .i64 0, .int .i64 0, .int .i64 0, .slice none 0 0, .slice none 0 0, .bool false] := (BZ5.alloc _).grownV hg7 H.out.lt.2 (Nat.le_succ _)
      have b7 : Below base w w7 := ((below_alloc _ b5).mono hb).trans hb7
      have Hrow := Lib.hid hrow
      have e5 := BX5.cell 5 (v := .slice pW nW cW) rfl
      have e6 := BW5.cell 0 (v := .string u) rfl
      have e7 := BW5.cell 1 (v := .string ⟨#[]⟩) rfl
      have e8 := BW5.cell 2 (v := .bool false) rfl
      clear hg7 hb7 hrow Hk Hv
      have x5 := BX7.cell 5 (v := .slice pW nW cW) rfl
      have f5 := BX7.frozen 5
      have hsz0 := BX7.lt
      go_upto_region 22 with (at_builtin; go_must (refine Lib.wpList_append_run _ rfl _ _ 23 23 rfl _ _ rfl rfl _ w7 hrun ?_))
      clear hrun e5 e6 e7 e8 BX5 BZ5 BW5 x5 f5 hsz0
      generalize hw8 : World.setCell _ _ _ = w8
      have BX8 : Blk w8 w.heap.size 25 #[.int .i64 K, .int .i64 T, .int .i64 Ti, .int .i64 L, .slice pR nR cR, .slice p7 (nW + 1) c7, .bool Y] := by rw [← hw8]; have := BX7.set 5 (.slice p7 (nW + 1) c7); simpa using this
      have BZ8 : Blk w8 (w.heap.size + 1) 25 #[.int .i64 0, .int .i64 0, .int .i64 0, .int .i64 0, .slice none 0 0, .slice none 0 0, .bool false] := by rw [← hw8]; exact BZ7.other _ _ (by omega)
      have b8 : Below base w w8 := by rw [← hw8]; exact b7.setCell hb _
      have Hrow8 := rows_twain Hrow.out BX7 BZ7 (w' := w8) (by rw [← hw8]; exact Twain.set (Twain.refl _ _ _) (Or.inl rfl))
      have HR8 := Lib.hid Hrow8
      clear hw8 Hrow8 Hrow BX7 BZ7 b7
      have x0 := BX8.cell 0 (v := .int .i64 K) rfl
      have x1 := BX8.cell 1 (v := .int .i64 T) rfl
      have x2 := BX8.cell 2 (v := .int .i64 Ti) rfl
      have x3 := BX8.cell 3 (v := .int .i64 L) rfl
      have x4 := BX8.cell 4 (v := .slice pR nR cR) rfl
      have x5 := BX8.cell 5 (v := .slice p7 (nW + 1) c7) rfl
      have x6 := BX8.cell 6 (v := .bool Y) rfl
      have f0 := BX8.frozen 0
      have f1 := BX8.frozen 1
      have f2 := BX8.frozen 2
      have f3 := BX8.frozen 3
      have f4 := BX8.frozen 4
      have f5 := BX8.frozen 5
      have f6 := BX8.frozen 6
      have z0 := BZ8.cell 0 (v := .int .i64 0) rfl
      have z1 := BZ8.cell 1 (v := .int .i64 0) rfl
      have z2 := BZ8.cell 2 (v := .int .i64 0) rfl
      have z3 := BZ8.cell 3 (v := .int .i64 0) rfl
      have z4 := BZ8.cell 4 (v := .slice none 0 0) rfl
      have z5 := BZ8.cell 5 (v := .slice none 0 0) rfl
      have z6 := BZ8.cell 6 (v := .bool false) rfl
      have g0 := BZ8.frozen 0
      have g1 := BZ8.frozen 1
      have g2 := BZ8.frozen 2
      have g3 := BZ8.frozen 3
      have g4 := BZ8.frozen 4
      have g5 := BZ8.frozen 5
      have g6 := BZ8.frozen 6
      go_wp2
      clear x0 f0 z0 g0 x1 f1 z1 g1 x2 f2 z2 g2 x3 f3 z3 g3 x4 f4 z4 g4 x5 f5 z5 g5 x6 f6 z6 g6
      generalize hw9 : World.setCell _ _ _ = w9
      have BZ9 : Blk w9 (w.heap.size + 1) 25 #[.int .i64 K, .int .i64 T, .int .i64 Ti, .int .i64 L, .slice pR nR cR, .slice p7 (nW + 1) c7, .bool Y] := by rw [← hw9]; have := (((((((BZ8.set 0 (.int .i64 K)).set 1 (.int .i64 T)).set 2 (.int .i64 Ti)).set 3 (.int .i64 L)).set 4 (.slice pR nR cR)).set 5 (.slice p7 (nW + 1) c7)).set 6 (.bool Y)); simpa using this
      have b9 : Below base w w9 := by rw [← hw9]; exact (((((((b8.setCell (Nat.le_succ_of_le hb) _).setCell (Nat.le_succ_of_le hb) _).setCell (Nat.le_succ_of_le hb) _).setCell (Nat.le_succ_of_le hb) _).setCell (Nat.le_succ_of_le hb) _).setCell (Nat.le_succ_of_le hb) _).setCell (Nat.le_succ_of_le hb) _)
      have HR9 := rows_twain HR8.out BX8 BZ8 (w' := w9) (by rw [← hw9]; exact (Twain.set (Twain.set (Twain.set (Twain.set (Twain.set (Twain.set (Twain.set (Twain.refl _ _ _) (Or.inr rfl)) (Or.inr rfl)) (Or.inr rfl)) (Or.inr rfl)) (Or.inr rfl)) (Or.inr rfl)) (Or.inr rfl)))
      clear hw9
      have z0 := BZ9.cell 0 (v := .int .i64 K) rfl
      have z1 := BZ9.cell 1 (v := .int .i64 T) rfl
      have z2 := BZ9.cell 2 (v := .int .i64 Ti) rfl
      have z3 := BZ9.cell 3 (v := .int .i64 L) rfl
      have z4 := BZ9.cell 4 (v := .slice pR nR cR) rfl
      have z5 := BZ9.cell 5 (v := .slice p7 (nW + 1) c7) rfl
      have z6 := BZ9.cell 6 (v := .bool Y) rfl
      have g0 := BZ9.frozen 0
      have g1 := BZ9.frozen 1
      have g2 := BZ9.frozen 2
      have g3 := BZ9.frozen 3
      have g4 := BZ9.frozen 4
      have g5 := BZ9.frozen 5
      have g6 := BZ9.frozen 6
      refine bodyPost_ret (v := .agg #[.int .i64 K, .int .i64 T, .int .i64 Ti, .int .i64 L, .slice pR nR cR, .slice p7 (nW + 1) c7, .bool Y]) (by simp [results, Tryz.results12, go_sem, z0, g0, z1, g1, z2, g2, z3, g3, z4, g4, z5, g5, z6, g6]) rfl ?_
      exact word_post Hr3.out HnR.out (by rw [List.length_append, HnW.out]; rfl) HR9 b9
    · have tpI : (0 : Int) < (t.size : Int) := by omega
      have tpI1 : (0 : Int) ≤ (t.size : Int) - 1 := by omega
      have ttI : (t.size : Int) - 1 ≤ (t.size : Int) := by omega
      have tlI : (t.size : Int) ≤ 400 := by have := Ht.out; omega
      have Hv : Hid ((⟨#[]⟩ : ByteArray).size ≤ maxLen) := Lib.hid (Nat.zero_le _)
      have hcut : ((t.size : Int) - 1).toNat = t.size - 1 := by omega
      have Hk : Hid ((t.extract 0 (t.size - 1)).size ≤ maxLen) := Lib.hid (by rw [ByteArray.size_extract]; have := Ht.out; unfold maxLen; omega)
      have Hr3 : Hid (r = ⟨K, T, Ti, L, R, W ++ [⟨t.extract 0 (t.size - 1), ⟨#[]⟩, true⟩], Y⟩) := Lib.hid (by
        rw [Hr2.out]
        unfold wrS
        rw [if_neg (by rw [Hxd.out.1, Hn.out]; exact n2), if_pos (by omega), cut_of])
      clear hc hu Hr2 Hxd Hxs Hu n2 t0
      go_upto_region 21 with fail
      generalize hw5 : World.alloc _ _ = w5
      have BX5 : Blk w5 w.heap.size 25 #[.int .i64 K, .int .i64 T, .int .i64 Ti, .int .i64 L, .slice pR nR cR, .slice pW nW cW, .bool Y] := by rw [← hw5]; exact BX1.alloc _
      have BZ5 : Blk w5 (w.heap.size + 1) 25 #[.int .i64 0, .int .i64 0, .int .i64 0, .int .i64 0, .slice none 0 0, .slice none 0 0, .bool false] := by rw [← hw5]; exact BZ1.alloc _
      have BW5 : Blk w5 w1.heap.size 45 #[.string (t.extract 0 (t.size - 1)), .string ⟨#[]⟩, .bool true] := by rw [← hw5]; exact Blk.new w1 45 #[.string (t.extract 0 (t.size - 1)), .string ⟨#[]⟩, .bool true]
      have b5 : Below w.heap.size w w5 := by rw [← hw5]; (repeat (first | (with_reducible exact Below.refl _ _) | (with_reducible refine below_setCell ?_ (by first | (simp; done) | (simp; omega) | omega)) | (with_reducible refine below_alloc _ ?_) | (with_reducible refine below_drewN ?_ _) | (with_reducible assumption) | (with_reducible refine below_after (by assumption) ?_)))
      clear hw5 BX1 BZ1
      obtain ⟨p7, c7, w7, hrun, hrow, hg7, hb7⟩ := app_write 23 H.out (by rw [HnW.out]; omega) hb (x := ⟨(t.extract 0 (t.size - 1)), ⟨#[]⟩, true⟩) Hk.out Hv.out (wb := w5.alloc (.cells #[.string (t.extract 0 (t.size - 1)), .string ⟨#[]⟩, .bool true] 45)) (below_alloc _ b5) (Blk.new w5 45 _)
      rw [HnW.out] at hrun hrow
      have BX7 : Blk w7 w.heap.size 25 #[.int .i64 K, .int .i64 T, .int .i64 Ti, .int .i64 L, .slice pR nR cR, .slice pW nW cW, .bool Y] := (BX5.alloc _).grownV hg7 H.out.lt.2 (Nat.le_refl _)
      have BZ7 : Blk w7 (w.heap.size + 1) 25 #[.int .i64 0, .int .i64 0, .int .i64 0, .int .i64 0, .slice none 0 0, .slice none 0 0, .bool false] := (BZ5.alloc _).grownV hg7 H.out.lt.2 (Nat.le_succ _)
      have b7 : Below base w w7 := ((below_alloc _ b5).mono hb).trans hb7
      have Hrow := Lib.hid hrow
      have e5 := BX5.cell 5 (v := .slice pW nW cW) rfl
      have e6 := BW5.cell 0 (v := .string (t.extract 0 (t.size - 1))) rfl
      have e7 := BW5.cell 1 (v := .string ⟨#[]⟩) rfl
      have e8 := BW5.cell 2 (v := .bool true) rfl
      clear hg7 hb7 hrow Hk Hv
      have x5 := BX7.cell 5 (v := .slice pW nW cW) rfl
      have f5 := BX7.frozen 5
      have hsz0 := BX7.lt
      go_upto_region 22 with (at_builtin; go_must (refine Lib.wpList_append_run _ rfl _ _ 23 23 rfl _ _ rfl rfl _ w7 hrun ?_))
      clear hrun e5 e6 e7 e8 BX5 BZ5 BW5 x5 f5 hsz0
      generalize hw8 : World.setCell _ _ _ = w8
      have BX8 : Blk w8 w.heap.size 25 #[.int .i64 K, .int .i64 T, .int .i64 Ti, .int .i64 L, .slice pR nR cR, .slice p7 (nW + 1) c7, .bool Y] := by rw [← hw8]; have := BX7.set 5 (.slice p7 (nW + 1) c7); simpa using this
      have BZ8 : Blk w8 (w.heap.size + 1) 25 #[.int .i64 0, .int .i64 0, .int .i64 0, .int .i64 0, .slice none 0 0, .slice none 0 0, .bool false] := by rw [← hw8]; exact BZ7.other _ _ (by omega)
      have b8 : Below base w w8 := by rw [← hw8]; exact b7.setCell hb _
      have Hrow8 := rows_twain Hrow.out BX7 BZ7 (w' := w8) (by rw [← hw8]; exact Twain.set (Twain.refl _ _ _) (Or.inl rfl))
      have HR8 := Lib.hid Hrow8
      clear hw8 Hrow8 Hrow BX7 BZ7 b7
      have x0 := BX8.cell 0 (v := .int .i64 K) rfl
      have x1 := BX8.cell 1 (v := .int .i64 T) rfl
      have x2 := BX8.cell 2 (v := .int .i64 Ti) rfl
      have x3 := BX8.cell 3 (v := .int .i64 L) rfl
      have x4 := BX8.cell 4 (v := .slice pR nR cR) rfl
      have x5 := BX8.cell 5 (v := .slice p7 (nW + 1) c7) rfl
      have x6 := BX8.cell 6 (v := .bool Y) rfl
      have f0 := BX8.frozen 0
      have f1 := BX8.frozen 1
      have f2 := BX8.frozen 2
      have f3 := BX8.frozen 3
      have f4 := BX8.frozen 4
      have f5 := BX8.frozen 5
      have f6 := BX8.frozen 6
      have z0 := BZ8.cell 0 (v := .int .i64 0) rfl
      have z1 := BZ8.cell 1 (v := .int .i64 0) rfl
      have z2 := BZ8.cell 2 (v := .int .i64 0) rfl
      have z3 := BZ8.cell 3 (v := .int .i64 0) rfl
      have z4 := BZ8.cell 4 (v := .slice none 0 0) rfl
      have z5 := BZ8.cell 5 (v := .slice none 0 0) rfl
      have z6 := BZ8.cell 6 (v := .bool false) rfl
      have g0 := BZ8.frozen 0
      have g1 := BZ8.frozen 1
      have g2 := BZ8.frozen 2
      have g3 := BZ8.frozen 3
      have g4 := BZ8.frozen 4
      have g5 := BZ8.frozen 5
      have g6 := BZ8.frozen 6
      go_wp2
      clear x0 f0 z0 g0 x1 f1 z1 g1 x2 f2 z2 g2 x3 f3 z3 g3 x4 f4 z4 g4 x5 f5 z5 g5 x6 f6 z6 g6
      generalize hw9 : World.setCell _ _ _ = w9
      have BZ9 : Blk w9 (w.heap.size + 1) 25 #[.int .i64 K, .int .i64 T, .int .i64 Ti, .int .i64 L, .slice pR nR cR, .slice p7 (nW + 1) c7, .bool Y] := by rw [← hw9]; have := (((((((BZ8.set 0 (.int .i64 K)).set 1 (.int .i64 T)).set 2 (.int .i64 Ti)).set 3 (.int .i64 L)).set 4 (.slice pR nR cR)).set 5 (.slice p7 (nW + 1) c7)).set 6 (.bool Y)); simpa using this
      have b9 : Below base w w9 := by rw [← hw9]; exact (((((((b8.setCell (Nat.le_succ_of_le hb) _).setCell (Nat.le_succ_of_le hb) _).setCell (Nat.le_succ_of_le hb) _).setCell (Nat.le_succ_of_le hb) _).setCell (Nat.le_succ_of_le hb) _).setCell (Nat.le_succ_of_le hb) _).setCell (Nat.le_succ_of_le hb) _)
      have HR9 := rows_twain HR8.out BX8 BZ8 (w' := w9) (by rw [← hw9]; exact (Twain.set (Twain.set (Twain.set (Twain.set (Twain.set (Twain.set (Twain.set (Twain.refl _ _ _) (Or.inr rfl)) (Or.inr rfl)) (Or.inr rfl)) (Or.inr rfl)) (Or.inr rfl)) (Or.inr rfl)) (Or.inr rfl)))
      clear hw9
      have z0 := BZ9.cell 0 (v := .int .i64 K) rfl
      have z1 := BZ9.cell 1 (v := .int .i64 T) rfl
      have z2 := BZ9.cell 2 (v := .int .i64 Ti) rfl
      have z3 := BZ9.cell 3 (v := .int .i64 L) rfl
      have z4 := BZ9.cell 4 (v := .slice pR nR cR) rfl
      have z5 := BZ9.cell 5 (v := .slice p7 (nW + 1) c7) rfl
      have z6 := BZ9.cell 6 (v := .bool Y) rfl
      have g0 := BZ9.frozen 0
      have g1 := BZ9.frozen 1
      have g2 := BZ9.frozen 2
      have g3 := BZ9.frozen 3
      have g4 := BZ9.frozen 4
      have g5 := BZ9.frozen 5
      have g6 := BZ9.frozen 6
      refine bodyPost_ret (v := .agg #[.int .i64 K, .int .i64 T, .int .i64 Ti, .int .i64 L, .slice pR nR cR, .slice p7 (nW + 1) c7, .bool Y]) (by simp [results, Tryz.results12, go_sem, z0, g0, z1, g1, z2, g2, z3, g3, z4, g4, z5, g5, z6, g6]) rfl ?_
      exact word_post Hr3.out HnR.out (by rw [List.length_append, HnW.out]; rfl) HR9 b9
  have y33 : (z == 33) = false := by simpa using z33
  rw [if_neg z33] at hst
  have Hr2 := Lib.hid hst
  clear hst z33
  go_wp2
  refine bodyPost_ret (v := .agg #[.int .i64 K, .int .i64 T, .int .i64 Ti, .int .i64 L, .slice pR nR cR, .slice pW nW cW, .bool Y]) (by simp [results, Tryz.results12, go_sem]) rfl ?_
  exact word_post Hr2.out HnR.out HnW.out (H.out.below (by (repeat (first | (with_reducible exact Below.refl _ _) | (with_reducible refine below_setCell ?_ (by first | (simp; done) | (simp; omega) | omega)) | (with_reducible refine below_alloc _ ?_) | (with_reducible refine below_drewN ?_ _) | (with_reducible assumption) | (with_reducible refine below_after (by assumption) ?_))))) (below_base (by (repeat (first | (with_reducible exact Below.refl _ _) | (with_reducible refine below_setCell ?_ (by first | (simp; done) | (simp; omega) | omega)) | (with_reducible refine below_alloc _ ?_) | (with_reducible refine below_drewN ?_ _) | (with_reducible assumption) | (with_reducible refine below_after (by assumption) ?_)))) hb)

end Go.Proofs.YtpiheobpobclgaaGreatDoor
