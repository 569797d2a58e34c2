/- impl's readWord. Printed by mkrdtxi.py. -/
import Derived.Test.YtpiheobpobclgaaGreatDoorRdTxW
namespace Go.Proofs.YtpiheobpobclgaaGreatDoor
open Go.RowKit

/-- bytealg.MaxLen stands, and will. -/
def MaxZ (w : World) : Prop := ∃ m, ∀ w', Below w.heap.size w w' → w'.cell? ⟨0, 0, none⟩ = some (.int .i64 m)
theorem MaxZ.on {w w' : World} (h : MaxZ w) (k : Below w.heap.size w w') : MaxZ w' := by
  obtain ⟨m, h⟩ := h
  exact ⟨m, fun w2 k2 => h w2 (k.trans (k2.mono k.size))⟩
theorem RowsOf.low {w : World} {base : Nat} {vR vW : Value} {R : List ByteArray} {W : List WriteD} (h : RowsOf w base vR vW R W) : (∀ g, vR.ownBlock = some g → base ≤ g) ∧ ∀ g, vW.ownBlock = some g → base ≤ g := by
  obtain ⟨⟨c1, _, h1, _⟩, c2, _, h2, _⟩ := h
  exact ⟨fun g hg => (h1.lt g hg).1, fun g hg => (h2.lt g hg).1⟩
theorem size_mk (l : List UInt8) : (⟨l.toArray⟩ : ByteArray).size = l.length := by simp [ByteArray.size]
theorem cut_le (t : ByteArray) : (⟨(Lib.cut t.data.toList [61]).1.toArray⟩ : ByteArray).size ≤ t.size ∧ (⟨(Lib.cut t.data.toList [61]).2.1.toArray⟩ : ByteArray).size ≤ t.size := by
  have h2 : t.data.toList.length = t.size := by rw [Array.length_toList]; rfl
  rw [size_mk, size_mk]
  unfold Lib.cut
  split
  · refine ⟨?_, ?_⟩
    · show (List.take _ _).length ≤ _
      rw [List.length_take]; exact Nat.le_trans (Nat.min_le_right _ _) (Nat.le_of_eq h2)
    · show (List.drop _ _).length ≤ _
      rw [List.length_drop]; exact Nat.le_trans (Nat.sub_le _ _) (Nat.le_of_eq h2)
  · exact ⟨Nat.le_of_eq h2, Nat.zero_le _⟩
theorem trim_le (t : ByteArray) : (⟨(Lib.trimSuffix t.data.toList [45]).toArray⟩ : ByteArray).size ≤ t.size := by
  have h2 : t.data.toList.length = t.size := by rw [Array.length_toList]; rfl
  rw [size_mk]
  unfold Lib.trimSuffix
  split
  · rw [List.length_take]; omega
  · exact Nat.le_of_eq h2
/-- What readWord leaves. -/
def ReadPost (B base : Nat) (o : Option RecD) (w : World) (e : Ending) (w' : World) : Prop := Below B w w' ∧ ((o = none ∧ e = .returned (.bool false)) ∨ ∃ r pR cR pW cW, o = some r ∧ e = .returned (.bool true) ∧ Blk w' B 25 #[.int .i64 r.Kind, .int .i64 r.Txn, .int .i64 r.Time, .int .i64 r.Lead, .slice pR r.Reads.length cR, .slice pW r.Writes.length cW, .bool r.Yes] ∧ RowsOf w' base (.slice pR r.Reads.length cR) (.slice pW r.Writes.length cW) r.Reads r.Writes)
theorem read_no {B base : Nat} {o : Option RecD} {w w' : World} (h : o = none) (b : Below B w w') : ReadPost B base o w (.returned (.bool false)) w' := ⟨b, Or.inl ⟨h, rfl⟩⟩
theorem read_yes {B base : Nat} {o : Option RecD} {w w' : World} {K T Ti L : Int} {R : List ByteArray} {W : List WriteD} {Y : Bool} {pR pW : Option Addr} {nR nW cR cW : Nat} (he : o = some ⟨K, T, Ti, L, R, W, Y⟩) (hR : R.length = nR) (hW : W.length = nW)
    (hB : Blk w' B 25 #[.int .i64 K, .int .i64 T, .int .i64 Ti, .int .i64 L, .slice pR nR cR, .slice pW nW cW, .bool Y]) (h : RowsOf w' base (.slice pR nR cR) (.slice pW nW cW) R W) (b : Below B w w') : ReadPost B base o w (.returned (.bool true)) w' := by
  subst hR hW
  exact ⟨b, Or.inr ⟨_, pR, cR, pW, cW, he, rfl, hB, h⟩⟩

set_option maxRecDepth 100000 in
set_option maxHeartbeats 6400000 in
/-- impl's readWord -/
theorem readWord_any (K T Ti L : Int) (R : List ByteArray) (W : List WriteD) (Y : Bool) (s : ByteArray) (hs : s.size ≤ 400) (hR : R.length ≤ 1000) (hW : W.length ≤ 1000) (w0 w : World) (B base : Nat) (pR pW : Option Addr) (cR cW : Nat) (hB : Blk w B 25 #[.int .i64 K, .int .i64 T, .int .i64 Ti, .int .i64 L, .slice pR R.length cR, .slice pW W.length cW, .bool Y])
    (hBb : B < base) (hb : base ≤ w.heap.size) (hB0 : w0.heap.size ≤ B) (k0 : Below w0.heap.size w0 w) (hT : TabW w0) (hE : ErrW w0) (hM : MaxZ w0) (h : RowsOf w base (.slice pR R.length cR) (.slice pW W.length cW) R W) :
    Calls Tryz.prog 18 #[.pointer (some ⟨B, 0, none⟩), .string s] w (ReadPost B base (stepI ⟨K, T, Ti, L, R, W, Y⟩ s) w) := by
  have H := Lib.hid h
  obtain ⟨nR, hnR⟩ : ∃ n, R.length = n := ⟨_, rfl⟩
  obtain ⟨nW, hnW⟩ : ∃ n, W.length = n := ⟨_, rfl⟩
  rw [hnR] at H hR hB
  rw [hnW] at H hW hB
  have HnR := Lib.hid hnR
  have HnW := Lib.hid hnW
  have HB := Lib.hid hB
  have hBw : B < w.heap.size := hB.lt
  have Hint := Lib.hid (fun (p : ByteArray) (hp : p.size ≤ 400) (lo hi : Int) => readInt_any p (by omega) lo hi w (hT.on k0) (hE.on k0))
  have Hm := Lib.hid (hM.on k0)
  obtain ⟨o, ho⟩ : ∃ o, stepI ⟨K, T, Ti, L, R, W, Y⟩ s = o := ⟨_, rfl⟩
  have Ho := Lib.hid ho
  rw [ho]
  clear h hnR hnW ho hT hE hM k0 hB
  have Y0 := Below.refl B w
  by_cases hno : s = ⟨#[110, 111]⟩
  · subst hno
    have Ho2 : Hid (o = some ⟨K, T, Ti, L, R, W, Y⟩) := Lib.hid Ho.out.symm
    clear hs Ho
    go_enter Tryz.func18, Tryz.ntmps18
    go_wp2
    go_ret
    exact read_yes Ho2.out HnR.out HnW.out HB.out H.out Y0
  have hno1 : (s.toList == [110, 111]) = false := by
    have h := str_ne hno
    rwa [show (⟨#[110, 111]⟩ : ByteArray).toList = [110, 111] from by first | rfl | (simp; done) | (simp [go_sem]; done)] at h
  by_cases he : s = ⟨#[]⟩
  · subst he
    have Ho2 : Hid (o = none) := Lib.hid Ho.out.symm
    clear hs Ho
    go_enter Tryz.func18, Tryz.ntmps18
    go_wp2
    go_ret
    exact read_no Ho2.out Y0
  have hne1 : (s.toList == (⟨#[]⟩ : ByteArray).toList) = false := str_ne he
  have hne2 : s.toList.isEmpty = false := someOf fun h => he (nilOf h)
  have hp : 0 < s.size := Nat.pos_of_ne_zero fun h => he (nilOf h)
  have hpI : (0 : Int) < (s.size : Int) := by omega
  have hpI1 : (1 : Int) ≤ (s.size : Int) := by omega
  have hsI : (s.size : Int) ≤ 400 := by omega
  have Hst := Lib.hid (fun (z : Int) (hz : ((s[0]'hp).toNat : Int) = z) => stepI_of (s := s) ⟨K, T, Ti, L, R, W, Y⟩ hp hno hz)
  have Ht : Hid ((s.extract 1 s.size).size ≤ 400) := Lib.hid (by rw [ByteArray.size_extract]; omega)
  have Hs := Lib.hid hs
  clear hs
  go_enter Tryz.func18, Tryz.ntmps18
  go_upto_region 9 with fail
  generalize s.extract 1 s.size = t at *
  generalize hz : ((s[0]'hp).toNat : Int) = z
  have hst := Hst.out z hz
  rw [Ho.out] at hst
  clear Hst Ho hz
  by_cases z64 : z = 64
  · subst z64
    have Hc := Lib.hid (Hint.out t Ht.out 1 100000)
    obtain ⟨D, hD⟩ : ∃ D, (readI t.data.toList 1 100000).1 = D := ⟨_, rfl⟩
    obtain ⟨q, hq⟩ : ∃ q, (readI t.data.toList 1 100000).2 = q := ⟨_, rfl⟩
    have Hst2 := Lib.hid hst
    rw [if_pos rfl, hD, hq] at Hst2
    rw [hD, hq] at Hc
    clear hst hD hq Hint
    go_wp2_with fail
    refine (Hc.out).mono ?_
    rintro e w1 ⟨rfl, k1⟩
    have HB1 := Lib.hid (HB.out.below k1)
    have HR1 := Lib.hid (H.out.below k1)
    have b1 : Below B w w1 := k1.mono (by omega)
    clear k1 HB H Hc
    have x0 := HB1.out.cell 0 (v := .int .i64 K) rfl
    have x1 := HB1.out.cell 1 (v := .int .i64 T) rfl
    have x2 := HB1.out.cell 2 (v := .int .i64 Ti) rfl
    have x3 := HB1.out.cell 3 (v := .int .i64 L) rfl
    have x4 := HB1.out.cell 4 (v := .slice pR nR cR) rfl
    have x5 := HB1.out.cell 5 (v := .slice pW nW cW) rfl
    have x6 := HB1.out.cell 6 (v := .bool Y) rfl
    have f0 := HB1.out.frozen 0
    have f1 := HB1.out.frozen 1
    have f2 := HB1.out.frozen 2
    have f3 := HB1.out.frozen 3
    have f4 := HB1.out.frozen 4
    have f5 := HB1.out.frozen 5
    have f6 := HB1.out.frozen 6
    by_cases k2 : K = 2
    · subst k2
      have Hst3 : Hid (o = bif q then some ⟨2, T, D, L, R, W, true⟩ else none) := Lib.hid Hst2.out
      cases q
      · go_wp2
        go_ret
        exact read_no Hst3.out ((b1.setCell (Nat.le_refl _) _).setCell (Nat.le_refl _) _)
      · go_wp2
        go_ret
        exact read_yes Hst3.out HnR.out HnW.out (by have := ((HB1.out.set 2 (.int .i64 D)).set 6 (.bool true)); simpa using this) (rows_twain HR1.out HB1.out HB1.out (by refine Twain.set ?_ (Or.inl rfl); refine Twain.set ?_ (Or.inl rfl); exact Twain.refl _ _ _)) ((b1.setCell (Nat.le_refl _) _).setCell (Nat.le_refl _) _)
    by_cases k3 : K = 3
    · subst k3
      have Hst3 : Hid (o = bif q then some ⟨3, T, D, L, R, W, true⟩ else none) := Lib.hid Hst2.out
      cases q
      · go_wp2
        go_ret
        exact read_no Hst3.out ((b1.setCell (Nat.le_refl _) _).setCell (Nat.le_refl _) _)
      · go_wp2
        go_ret
        exact read_yes Hst3.out HnR.out HnW.out (by have := ((HB1.out.set 2 (.int .i64 D)).set 6 (.bool true)); simpa using this) (rows_twain HR1.out HB1.out HB1.out (by refine Twain.set ?_ (Or.inl rfl); refine Twain.set ?_ (Or.inl rfl); exact Twain.refl _ _ _)) ((b1.setCell (Nat.le_refl _) _).setCell (Nat.le_refl _) _)
    have b2 : (K == 2) = false := by simpa using k2
    have b3 : (K == 3) = false := by simpa using k3
    have Hst3 : Hid (o = bif q then some ⟨K, T, D, L, R, W, false⟩ else none) := Lib.hid (by rw [Hst2.out]; unfold isYes; simp [k2, k3])
    clear k2 k3 Hst2
    cases q
    · go_wp2
      go_ret
      exact read_no Hst3.out ((b1.setCell (Nat.le_refl _) _).setCell (Nat.le_refl _) _)
    · go_wp2
      go_ret
      exact read_yes Hst3.out HnR.out HnW.out (by have := ((HB1.out.set 2 (.int .i64 D)).set 6 (.bool false)); simpa using this) (rows_twain HR1.out HB1.out HB1.out (by refine Twain.set ?_ (Or.inl rfl); refine Twain.set ?_ (Or.inl rfl); exact Twain.refl _ _ _)) ((b1.setCell (Nat.le_refl _) _).setCell (Nat.le_refl _) _)
  have y64 : (z == 64) = false := by simpa using z64
  rw [if_neg z64] at hst
  clear z64
  by_cases z62 : z = 62
  · subst z62
    have Hc := Lib.hid (Hint.out t Ht.out 0 3)
    obtain ⟨D, hD⟩ : ∃ D, (readI t.data.toList 0 3).1 = D := ⟨_, rfl⟩
    obtain ⟨q, hq⟩ : ∃ q, (readI t.data.toList 0 3).2 = q := ⟨_, rfl⟩
    have Hst2 := Lib.hid hst
    rw [if_pos rfl, hD, hq] at Hst2
    rw [hD, hq] at Hc
    clear hst hD hq Hint
    go_wp2_with fail
    refine (Hc.out).mono ?_
    rintro e w1 ⟨rfl, k1⟩
    have HB1 := Lib.hid (HB.out.below k1)
    have HR1 := Lib.hid (H.out.below k1)
    have b1 : Below B w w1 := k1.mono (by omega)
    clear k1 HB H Hc
    have x0 := HB1.out.cell 0 (v := .int .i64 K) rfl
    have x1 := HB1.out.cell 1 (v := .int .i64 T) rfl
    have x2 := HB1.out.cell 2 (v := .int .i64 Ti) rfl
    have x3 := HB1.out.cell 3 (v := .int .i64 L) rfl
    have x4 := HB1.out.cell 4 (v := .slice pR nR cR) rfl
    have x5 := HB1.out.cell 5 (v := .slice pW nW cW) rfl
    have x6 := HB1.out.cell 6 (v := .bool Y) rfl
    have f0 := HB1.out.frozen 0
    have f1 := HB1.out.frozen 1
    have f2 := HB1.out.frozen 2
    have f3 := HB1.out.frozen 3
    have f4 := HB1.out.frozen 4
    have f5 := HB1.out.frozen 5
    have f6 := HB1.out.frozen 6
    cases q
    · go_wp2
      go_ret
      exact read_no Hst2.out (b1.setCell (Nat.le_refl _) _)
    · go_wp2
      go_ret
      exact read_yes Hst2.out HnR.out HnW.out (by have := (HB1.out.set 3 (.int .i64 D)); simpa using this) (rows_twain HR1.out HB1.out HB1.out (by refine Twain.set ?_ (Or.inl rfl); exact Twain.refl _ _ _)) (b1.setCell (Nat.le_refl _) _)
  have y62 : (z == 62) = false := by simpa using z62
  rw [if_neg z62] at hst
  clear z62
  by_cases z63 : z = 63
  · subst z63
    have Ho2 : Hid (o = some ⟨K, T, Ti, L, R ++ [t], W, Y⟩) := Lib.hid hst
    clear hst Hint
    obtain ⟨p7, c7, w7, hrun, hrow, hg7, hb7⟩ := app_key 22 H.out (by rw [HnR.out]; omega) hb (s := t) (by have := Ht.out; unfold maxLen; omega) (wb := w.alloc (.cells #[.string t] 9)) (below_new _ _) (Blk.new w 9 #[.string t])
    rw [HnR.out] at hrun hrow
    have BX7 : Blk w7 B 25 #[.int .i64 K, .int .i64 T, .int .i64 Ti, .int .i64 L, .slice pR nR cR, .slice pW nW cW, .bool Y] := (HB.out.alloc _).of (hg7.block _ (HB.out.alloc _).lt (fun e => by have := H.out.low.1 B e.symm; omega))
    have b7 : Below B w w7 := (((below_new _ _).mono hb).trans hb7).mono (Nat.le_of_lt hBb)
    have Hrow := Lib.hid hrow
    have HBX := Lib.hid BX7
    have e4 := HB.out.cell 4 (v := .slice pR nR cR) rfl
    have x4 := BX7.cell 4 (v := .slice pR nR cR) rfl
    have f4 := BX7.frozen 4
    have hsz := BX7.lt
    clear hg7 hb7 hrow BX7 HB H
    go_wp2_with (at_builtin; go_must (refine Lib.wpList_append_run _ rfl _ _ 22 22 rfl _ _ rfl rfl _ w7 hrun ?_))
    go_ret
    exact read_yes Ho2.out (by rw [List.length_append, HnR.out]; rfl) HnW.out (by have := HBX.out.set 4 (.slice p7 (nR + 1) c7); simpa using this) (rows_twain Hrow.out HBX.out HBX.out (by refine Twain.set ?_ (Or.inl rfl); exact Twain.refl _ _ _)) (b7.setCell (Nat.le_refl _) _)
  have y63 : (z == 63) = false := by simpa using z63
  rw [if_neg z63] at hst
  clear z63
  by_cases z33 : z = 33
  · subst z33
    have Ho2 : Hid (o = some ⟨K, T, Ti, L, R, W ++ [wrI t], Y⟩) := Lib.hid hst
    clear hst Hint
    obtain ⟨m, hm⟩ := Hm.out
    have hcut : Calls Tryz.prog 34 #[.string t, .string ⟨#[61]⟩] w fun e w' => e = .returned (.tuple #[.string ⟨(Lib.cut t.data.toList [61]).1.toArray⟩, .string ⟨(Lib.cut t.data.toList [61]).2.1.toArray⟩, .bool (Lib.cut t.data.toList [61]).2.2]) ∧ ∃ n, w' = w.drewN n := Tryz.strings_Cut t ⟨#[61]⟩ m w (by have := Ht.out; omega) (hm w (Below.refl _ _))
    have htrim : ∀ W, Calls Tryz.prog 35 #[.string t, .string ⟨#[45]⟩] W fun e w' => e = .returned (.string ⟨(Lib.trimSuffix t.data.toList [45]).toArray⟩) ∧ w' = W := fun W => Tryz.strings_TrimSuffix t ⟨#[45]⟩ W (by have := Ht.out; omega)
    have hk1 := (cut_le t).1
    have hv1 := (cut_le t).2
    have ht1 := trim_le t
    have Hw : Hid (wrI t = bif (Lib.cut t.data.toList [61]).2.2 then ⟨⟨(Lib.cut t.data.toList [61]).1.toArray⟩, ⟨(Lib.cut t.data.toList [61]).2.1.toArray⟩, false⟩ else ⟨⟨(Lib.trimSuffix t.data.toList [45]).toArray⟩, ⟨(Lib.cut t.data.toList [61]).2.1.toArray⟩, true⟩) := Lib.hid rfl
    generalize (⟨(Lib.cut t.data.toList [61]).1.toArray⟩ : ByteArray) = a at *
    generalize (⟨(Lib.cut t.data.toList [61]).2.1.toArray⟩ : ByteArray) = b at *
    generalize (Lib.cut t.data.toList [61]).2.2 = q at *
    generalize (⟨(Lib.trimSuffix t.data.toList [45]).toArray⟩ : ByteArray) = d at *
    have Hv : Hid (b.size ≤ maxLen) := Lib.hid (by have := Ht.out; unfold maxLen; omega)
    have Hka : Hid (a.size ≤ maxLen) := Lib.hid (by have := Ht.out; unfold maxLen; omega)
    have Hkd : Hid (d.size ≤ maxLen) := Lib.hid (by have := Ht.out; unfold maxLen; omega)
    have Hcut := Lib.hid hcut
    have Htrim := Lib.hid htrim
    clear hcut htrim hm hk1 hv1 ht1 Hm
    go_wp2_with fail
    refine (Hcut.out).mono ?_
    rintro e w1 ⟨rfl, nd, hw1⟩
    have k1 : Below w.heap.size w w1 := by rw [hw1]; exact below_drewN (Below.refl _ _) _
    have HB1 := Lib.hid (HB.out.below k1)
    have HR1 := Lib.hid (H.out.below k1)
    have b1 : Below B w w1 := k1.mono (by omega)
    have hb1 : base ≤ w1.heap.size := Nat.le_trans hb k1.size
    clear k1 HB H Hcut hw1
    cases q
    · have Ho3 : Hid (o = some ⟨K, T, Ti, L, R, W ++ [⟨d, b, true⟩], Y⟩) := Lib.hid (by rw [Ho2.out, Hw.out]; rfl)
      have Hk := Hkd
      clear Ho2 Hw Hka
      go_wp2_with fail
      refine (Htrim.out _).mono ?_
      rintro e w2 ⟨rfl, hw2⟩
      subst hw2
      obtain ⟨p7, c7, w7, hrun, hrow, hg7, hb7⟩ := app_write 23 HR1.out (by rw [HnW.out]; omega) hb1 (x := ⟨d, b, true⟩) Hk.out Hv.out (wb := w2.alloc (.cells #[.string d, .string b, .bool true] 45)) (below_new _ _) (Blk.new w2 45 _)
      rw [HnW.out] at hrun hrow
      have BX7 : Blk w7 B 25 #[.int .i64 K, .int .i64 T, .int .i64 Ti, .int .i64 L, .slice pR nR cR, .slice pW nW cW, .bool Y] := (HB1.out.alloc _).of (hg7.block _ (HB1.out.alloc _).lt (fun e => by have := HR1.out.low.2 B e.symm; omega))
      have b7 : Below B w w7 := b1.trans ((((below_new _ _).mono hb1).trans hb7).mono (Nat.le_of_lt hBb))
      have Hrow := Lib.hid hrow
      have HBX := Lib.hid BX7
      have e5 := HB1.out.cell 5 (v := .slice pW nW cW) rfl
      have x5 := BX7.cell 5 (v := .slice pW nW cW) rfl
      have f5 := BX7.frozen 5
      have hsz := BX7.lt
      clear hg7 hb7 hrow BX7 HB1 HR1 Hk Hv
      go_wp2_with (at_builtin; go_must (refine Lib.wpList_append_run _ rfl _ _ 23 23 rfl _ _ rfl rfl _ w7 hrun ?_))
      go_ret
      exact read_yes Ho3.out HnR.out (by rw [List.length_append, HnW.out]; rfl) (by have := HBX.out.set 5 (.slice p7 (nW + 1) c7); simpa using this) (rows_twain Hrow.out HBX.out HBX.out (by refine Twain.set ?_ (Or.inl rfl); exact Twain.refl _ _ _)) (b7.setCell (Nat.le_refl _) _)
    · have Ho3 : Hid (o = some ⟨K, T, Ti, L, R, W ++ [⟨a, b, false⟩], Y⟩) := Lib.hid (by rw [Ho2.out, Hw.out]; rfl)
      have Hk := Hka
      clear Ho2 Hw Hkd Htrim
      obtain ⟨p7, c7, w7, hrun, hrow, hg7, hb7⟩ := app_write 23 HR1.out (by rw [HnW.out]; omega) hb1 (x := ⟨a, b, false⟩) Hk.out Hv.out (wb := w1.alloc (.cells #[.string a, .string b, .bool false] 45)) (below_new _ _) (Blk.new w1 45 _)
      rw [HnW.out] at hrun hrow
      have BX7 : Blk w7 B 25 #[.int .i64 K, .int .i64 T, .int .i64 Ti, .int .i64 L, .slice pR nR cR, .slice pW nW cW, .bool Y] := (HB1.out.alloc _).of (hg7.block _ (HB1.out.alloc _).lt (fun e => by have := HR1.out.low.2 B e.symm; omega))
      have b7 : Below B w w7 := b1.trans ((((below_new _ _).mono hb1).trans hb7).mono (Nat.le_of_lt hBb))
      have Hrow := Lib.hid hrow
      have HBX := Lib.hid BX7
      have e5 := HB1.out.cell 5 (v := .slice pW nW cW) rfl
      have x5 := BX7.cell 5 (v := .slice pW nW cW) rfl
      have f5 := BX7.frozen 5
      have hsz := BX7.lt
      clear hg7 hb7 hrow BX7 HB1 HR1 Hk Hv
      go_wp2_with (at_builtin; go_must (refine Lib.wpList_append_run _ rfl _ _ 23 23 rfl _ _ rfl rfl _ w7 hrun ?_))
      go_ret
      exact read_yes Ho3.out HnR.out (by rw [List.length_append, HnW.out]; rfl) (by have := HBX.out.set 5 (.slice p7 (nW + 1) c7); simpa using this) (rows_twain Hrow.out HBX.out HBX.out (by refine Twain.set ?_ (Or.inl rfl); exact Twain.refl _ _ _)) (b7.setCell (Nat.le_refl _) _)
  have y33 : (z == 33) = false := by simpa using z33
  rw [if_neg z33] at hst
  clear z33
  have Hc := Lib.hid (Hint.out s Hs.out 1 60)
  obtain ⟨D, hD⟩ : ∃ D, (readI s.data.toList 1 60).1 = D := ⟨_, rfl⟩
  obtain ⟨q, hq⟩ : ∃ q, (readI s.data.toList 1 60).2 = q := ⟨_, rfl⟩
  have Hst2 := Lib.hid hst
  rw [hD, hq] at Hst2
  rw [hD, hq] at Hc
  clear hst hD hq Hint
  go_wp2_with fail
  refine (Hc.out).mono ?_
  rintro e w1 ⟨rfl, k1⟩
  have HB1 := Lib.hid (HB.out.below k1)
  have HR1 := Lib.hid (H.out.below k1)
  have b1 : Below B w w1 := k1.mono (by omega)
  clear k1 HB H Hc
  have x0 := HB1.out.cell 0 (v := .int .i64 K) rfl
  have x1 := HB1.out.cell 1 (v := .int .i64 T) rfl
  have x2 := HB1.out.cell 2 (v := .int .i64 Ti) rfl
  have x3 := HB1.out.cell 3 (v := .int .i64 L) rfl
  have x4 := HB1.out.cell 4 (v := .slice pR nR cR) rfl
  have x5 := HB1.out.cell 5 (v := .slice pW nW cW) rfl
  have x6 := HB1.out.cell 6 (v := .bool Y) rfl
  have f0 := HB1.out.frozen 0
  have f1 := HB1.out.frozen 1
  have f2 := HB1.out.frozen 2
  have f3 := HB1.out.frozen 3
  have f4 := HB1.out.frozen 4
  have f5 := HB1.out.frozen 5
  have f6 := HB1.out.frozen 6
  cases q
  · go_wp2
    go_ret
    exact read_no Hst2.out (b1.setCell (Nat.le_refl _) _)
  · go_wp2
    go_ret
    exact read_yes Hst2.out HnR.out HnW.out (by have := (HB1.out.set 1 (.int .i64 D)); simpa using this) (rows_twain HR1.out HB1.out HB1.out (by refine Twain.set ?_ (Or.inl rfl); exact Twain.refl _ _ _)) (b1.setCell (Nat.le_refl _) _)

end Go.Proofs.YtpiheobpobclgaaGreatDoor
