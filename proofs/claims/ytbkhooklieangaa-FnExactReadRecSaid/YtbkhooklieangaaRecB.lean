/- RecBytes, both; toRec for the laws. -/
import Derived.Test.YtbkhooklieangaaGoodr
import Derived.Test.YtbkhooklieangaaKit
import Derived.Test.YtbkhooklieangaaTos
namespace Go.Proofs.Ytbkhooklieangaa
open Go.RowKit

def flagB : Bool → ByteArray
  | true => ⟨#[1]⟩
  | false => ⟨#[0]⟩
theorem flagB_size (b : Bool) : (flagB b).size = 1 := by cases b <;> rfl
def wrB (x : WriteD) : ByteArray := (textB x.Key ++ flagB x.Gone) ++ textB x.Val
def headB (K T Ti L : Nat) (Y : Bool) (R : List ByteArray) (n : Nat) : ByteArray := ((((((numB K ++ numB T) ++ numB Ti) ++ numB L) ++ flagB Y) ++ textsB R) ++ numB n)
def wrsB (h : ByteArray) (l : List WriteD) : ByteArray := l.foldl (fun o x => o ++ wrB x) h
theorem wrsB_snoc (h : ByteArray) (l : List WriteD) (x : WriteD) : wrsB h (l ++ [x]) = wrsB h l ++ wrB x := by unfold wrsB; rw [List.foldl_append]; rfl
theorem wrB_size (x : WriteD) : (wrB x).size ≤ 2 * costWrite x + 3 := by
  unfold wrB costWrite
  rw [ByteArray.size_append, ByteArray.size_append, flagB_size]
  have := textB_size x.Key
  have := textB_size x.Val
  omega
theorem wrsB_size (h : ByteArray) (l : List WriteD) (k : Nat) (hk : k ≤ l.length) : (wrsB h (l.take k)).size ≤ h.size + 2 * sumC costWrite l + 3 * k := by
  have hle : (wrsB h (l.take k)).size ≤ h.size + 2 * sumC costWrite (l.take k) + 3 * k := by
    induction k with
    | zero => show h.size ≤ _; omega
    | succ k ih =>
      rw [List.take_succ_eq_append_getElem (by omega), wrsB_snoc, ByteArray.size_append]
      have := ih (by omega)
      have := wrB_size (l[k]'(by omega))
      have h2 := sumC_take costWrite l k (by omega)
      rw [List.take_succ_eq_append_getElem (by omega)] at h2
      omega
  have := sumC_le costWrite l k
  omega
theorem textsB_size (R : List ByteArray) : (textsB R).size ≤ 2 * sumSize R + 2 * R.length + 1 := by
  unfold textsB
  rw [ByteArray.size_append]
  have := numB_size R.length
  have := textsL_size R
  omega

/-- impl.flagByte -/
theorem flagByte_any (b : Bool) (w : World) : Calls Try.prog 131 #[.bool b] w fun e w' => e = .returned (.string (flagB b)) ∧ w = w' := by
  cases b
  all_goals
    go_enter Try.func131, Try.ntmps131
    go_wp2
    go_ret
    exact ⟨rfl, rfl⟩

/-- spec.l4Flag -/
theorem l4Flag_any (b : Bool) (w : World) : Calls Try.prog 124 #[.bool b] w fun e w' => e = .returned (.string (flagB b)) ∧ w = w' := by
  cases b
  all_goals
    go_enter Try.func124, Try.ntmps124
    go_wp2
    go_ret
    exact ⟨rfl, rfl⟩

set_option maxRecDepth 100000 in
set_option maxHeartbeats 6400000 in
/-- impl.recBytes -/
theorem recBytes_any (K T Ti L : Nat) (Y : Bool) (R : List ByteArray) (Wr : List WriteD) (pr pw : Option Addr) (cr cw : Nat) (hK : K ≤ 100000) (hT : T ≤ 100000) (hTi : Ti ≤ 100000) (hL : L ≤ 100000)
    (hR : costStringS R ≤ 1048576) (hW : costWriteS Wr ≤ 1048576) (w : World) (rR : Rd Cod.str w (.slice pr R.length cr) R) (rW : Rd Cod.write w (.slice pw Wr.length cw) Wr) :
    Calls Try.prog 81 #[.agg #[.int .i64 (K : Int), .int .i64 (T : Int), .int .i64 (Ti : Int), .int .i64 (L : Int), .slice pr R.length cr, .slice pw Wr.length cw, .bool Y]] w fun e w' => e = .returned (.string (sealB (wrsB (headB K T Ti L Y R Wr.length) Wr))) ∧ Below w.heap.size w w' := by
  have hRl : R.length ≤ 1048576 := by unfold costStringS at hR; omega
  have hRs : sumSize R ≤ 1048576 := by rw [sumSize_sumC]; unfold costStringS at hR; omega
  have hWl : Wr.length ≤ 1048576 := by unfold costWriteS at hW; omega
  have hWs : sumC costWrite Wr ≤ 1048576 := by unfold costWriteS at hW; omega
  have t0 := numB_size K
  have t1 := numB_size T
  have t2 := numB_size Ti
  have t3 := numB_size L
  have t4 := flagB_size Y
  have t5 := textsB_size R
  have t6 := numB_size Wr.length
  have Hh : Hid ((headB K T Ti L Y R Wr.length).size ≤ 9000000) := Lib.hid (by unfold headB; simp only [ByteArray.size_append]; omega)
  have Hsz := Lib.hid (fun k (hk : k ≤ Wr.length) => wrsB_size (headB K T Ti L Y R Wr.length) Wr k hk)
  have Hhd := Lib.hid (show headB K T Ti L Y R Wr.length = ((((((numB K ++ numB T) ++ numB Ti) ++ numB L) ++ flagB Y) ++ textsB R) ++ numB Wr.length) from rfl)
  generalize headB K T Ti L Y R Wr.length = hd at *
  obtain ⟨n, hn⟩ : ∃ n : Nat, Wr.length = n := ⟨_, rfl⟩
  have Hn := Lib.hid hn
  obtain ⟨p', c', hv, _, _, rr⟩ := rW.form
  obtain ⟨rfl, rfl⟩ : p' = pw ∧ c' = cw := by injection hv with h1 _ h2; exact ⟨h1.symm, h2.symm⟩
  have RW := Lib.hid rr
  clear hv rr
  rw [hn] at t6 Hhd hWl ⊢
  have HWs := Lib.hid hWs
  have Htx := Lib.hid (fun u => textsBytes_any (.slice pr R.length cr) R hRl hRs (ext (w.heap.size + 1) (w.alloc (.cells #[.int .i64 (K : Int), .int .i64 (T : Int), .int .i64 (Ti : Int), .int .i64 (L : Int), .slice pr R.length cr, .slice p' n c', .bool Y] 58)) u) ((rR.below ((below_new _ _).trans ((ext_below _ _ _).mono (by simp)))).strRow))
  have hadd0 := fun W => run_string_add_sum (P := Try.prog) (w := W) (numB K) (numB T) (by omega)
  have hadd1 := fun W => run_string_add_sum (P := Try.prog) (w := W) ((numB K) ++ numB T) (numB Ti) (by simp only [ByteArray.size_append]; omega)
  have hadd2 := fun W => run_string_add_sum (P := Try.prog) (w := W) (((numB K) ++ numB T) ++ numB Ti) (numB L) (by simp only [ByteArray.size_append]; omega)
  have hadd3 := fun W => run_string_add_sum (P := Try.prog) (w := W) ((((numB K) ++ numB T) ++ numB Ti) ++ numB L) (flagB Y) (by simp only [ByteArray.size_append]; omega)
  have hadd4 := fun W => run_string_add_sum (P := Try.prog) (w := W) (((((numB K) ++ numB T) ++ numB Ti) ++ numB L) ++ flagB Y) (textsB R) (by simp only [ByteArray.size_append]; omega)
  have hadd5 := fun W => run_string_add_sum (P := Try.prog) (w := W) ((((((numB K) ++ numB T) ++ numB Ti) ++ numB L) ++ flagB Y) ++ textsB R) (numB n) (by simp only [ByteArray.size_append]; omega)
  clear hn rW rR hR hW hRs hWs
  have Hfl := Lib.hid (flagByte_any Y)
  have hnI : (n : Int) ≤ 1048576 := by omega
  go_enter Try.func81, Try.ntmps81
  go_wp2_with fail
  have hx2 := fun (u : World) (b o : Nat) (h : b < w.heap.size + 1) => ext_cell (w.alloc (.cells #[.int .i64 (K : Int), .int .i64 (T : Int), .int .i64 (Ti : Int), .int .i64 (L : Int), .slice pr R.length cr, .slice p' n c', .bool Y] 58)) u b o h
  refine wp_region_ext (by kernel_rfl) (by kernel_rfl) (w.heap.size + 1) ?_
  repeat (any_goals (go_big_quiet_step ((first | (go_at_call 129; exact calls_ext (by first | (simp; done) | omega | (simp; omega)) (numBytes_b _ (by omega) _)) | (go_at_call 131; exact calls_ext_same (Hfl.out _)) | (go_at_call 132; exact calls_ext (by first | (simp; done) | omega | (simp; omega)) (Htx.out _))))))
  refine wpQuiet_nil ?_
  intro w2 hb2
  clear hx2
  rw [← Hhd.out]
  have c5 : w2.cell? ⟨w.heap.size, 5, none⟩ = some (.slice p' n c') := (hb2.cell (p := ⟨w.heap.size, 5, none⟩) (by simp)).trans (by simp [go_sem])
  have b2 : Below w.heap.size w w2 := (below_new w _).trans (hb2.mono (by simp))
  clear hadd0 hadd1 hadd2 hadd3 hadd4 hadd5 Htx hb2 t0 t1 t2 t3 t4 t5 t6 Hfl
  go_wp2
  go_loopw [3, 37] (fun o i wr => ∃ k : Nat, i = .int .i64 (k : Int) ∧ k ≤ n ∧ o = .string (wrsB hd (Wr.take k)) ∧ Below w.heap.size w wr) (fun _ i _ => n - (intOf i).toNat)
  case atStart => exact ⟨0, rfl, Nat.zero_le _, rfl, b2⟩
  case round =>
    obtain ⟨k, rfl, hk, rfl, hb⟩ := hrel
    by_cases hlt : k < n
    · have hlt2 : (k : Int) < (n : Int) := by omega
      have hkl : k < Wr.length := by have := Hn.out; omega
      obtain ⟨g, o, rfl, hg, hc⟩ := RW.out (by have := Hn.out; omega)
      have at0 := (hc k hkl).below hg hb
      have hgl : g < wr.heap.size := by have := hb.size; omega
      have Ht := Lib.hid (show wrsB hd (Wr.take (k + 1)) = wrsB hd (Wr.take k) ++ ((textB Wr[k].Key ++ flagB Wr[k].Gone) ++ textB Wr[k].Val) from by rw [List.take_succ_eq_append_getElem hkl, wrsB_snoc]; rfl)
      have hcst : costWrite Wr[k] ≤ 1048576 := Nat.le_trans (sumC_get costWrite Wr k hkl) HWs.out
      have hst : (wrsB hd (Wr.take k)).size ≤ 20000000 := by have h1 := Hsz.out k (by omega); have := Hh.out; have := HWs.out; omega
      obtain ⟨x, es⟩ : ∃ x, Wr[k] = x := ⟨_, rfl⟩
      rw [es] at at0 Ht hcst
      obtain ⟨d0, d1, d2, z0, z1⟩ := at_write at0
      rw [show o + k * Cod.write.size = o + k * 3 from rfl] at *
      have hkey : x.Key.size ≤ 1048576 := by unfold costWrite at hcst; omega
      have hval : x.Val.size ≤ 1048576 := by unfold costWrite at hcst; omega
      have t0 := textB_size x.Key
      have t1 := flagB_size x.Gone
      have t2 := textB_size x.Val
      obtain ⟨t, ht⟩ : ∃ t, wrsB hd (Wr.take k) = t := ⟨_, rfl⟩
      rw [ht] at Ht hst ⊢
      have hadd0 := fun W => run_string_add_sum (P := Try.prog) (w := W) (textB x.Key) (flagB x.Gone) (by omega)
      have hadd1 := fun W => run_string_add_sum (P := Try.prog) (w := W) (textB x.Key ++ flagB x.Gone) (textB x.Val) (by rw [ByteArray.size_append]; omega)
      have hadd2 := fun W => run_string_add_sum (P := Try.prog) (w := W) t ((textB x.Key ++ flagB x.Gone) ++ textB x.Val) (by rw [ByteArray.size_append, ByteArray.size_append]; omega)
      have Hf := Lib.hid (flagByte_any x.Gone)
      clear hc es hkl at0 z0 z1 ht hcst c5 t0 t1 t2 hst
      go_wp2_with fail
      have hx2 := fun (u : World) (b o : Nat) (h : b < wr.heap.size + 1) => ext_cell (wr.alloc (.cells #[.string x.Key, .string x.Val, .bool x.Gone] 81)) u b o h
      refine wp_region_ext (by kernel_rfl) (by kernel_rfl) (wr.heap.size + 1) ?_
      repeat (any_goals (go_big_quiet_step ((first | (go_at_call 133; exact calls_ext (by first | (simp; done) | omega | (simp; omega)) (textBytes_any _ (by omega) _)) | (go_at_call 131; exact calls_ext_same (Hf.out _))))))
      refine wpQuiet_nil ?_
      intro w3 hb3
      clear hx2 hadd0 hadd1 hadd2
      go_wp2
      go_roundw
      case rel => exact ⟨k + 1, by go_num, by omega, by rw [Ht.out], (below_alloc _ hb).trans (hb3.mono (by have := hb.size; omega))⟩
      case measure => simp [intOf]; omega
    · have hlt2 : (n : Int) ≤ (k : Int) := by omega
      obtain rfl : k = n := by omega
      have hf : Wr.take k = Wr := List.take_of_length_le (by have := Hn.out; omega)
      have hst : (wrsB hd (Wr.take k)).size ≤ 20000000 := by have h1 := Hsz.out k (by have := Hn.out; omega); have := Hh.out; have := HWs.out; omega
      rw [hf] at hst ⊢
      have Hs := Lib.hid (seal_any (wrsB hd Wr) (by omega))
      clear hst c5 hf
      go_wp2_with fail
      refine (Hs.out _).mono ?_
      rintro e w3 ⟨rfl, k3⟩
      go_wp2
      go_ret
      exact ⟨rfl, below_after k3 hb⟩


set_option maxRecDepth 100000 in
set_option maxHeartbeats 6400000 in
/-- spec.l4Bytes -/
theorem l4Bytes_any (K T Ti L : Nat) (Y : Bool) (R : List ByteArray) (Wr : List WriteD) (pr pw : Option Addr) (cr cw : Nat) (hK : K ≤ 100000) (hT : T ≤ 100000) (hTi : Ti ≤ 100000) (hL : L ≤ 100000)
    (hR : costStringS R ≤ 1048576) (hW : costWriteS Wr ≤ 1048576) (w : World) (rR : Rd Cod.str w (.slice pr R.length cr) R) (rW : Rd Cod.write w (.slice pw Wr.length cw) Wr) :
    Calls Try.prog 74 #[.agg #[.int .i64 (K : Int), .int .i64 (T : Int), .int .i64 (Ti : Int), .int .i64 (L : Int), .slice pr R.length cr, .slice pw Wr.length cw, .bool Y]] w fun e w' => e = .returned (.string (sealB (wrsB (headB K T Ti L Y R Wr.length) Wr))) ∧ Below w.heap.size w w' := by
  have hRl : R.length ≤ 1048576 := by unfold costStringS at hR; omega
  have hRs : sumSize R ≤ 1048576 := by rw [sumSize_sumC]; unfold costStringS at hR; omega
  have hWl : Wr.length ≤ 1048576 := by unfold costWriteS at hW; omega
  have hWs : sumC costWrite Wr ≤ 1048576 := by unfold costWriteS at hW; omega
  have t0 := numB_size K
  have t1 := numB_size T
  have t2 := numB_size Ti
  have t3 := numB_size L
  have t4 := flagB_size Y
  have t5 := textsB_size R
  have t6 := numB_size Wr.length
  have Hh : Hid ((headB K T Ti L Y R Wr.length).size ≤ 9000000) := Lib.hid (by unfold headB; simp only [ByteArray.size_append]; omega)
  have Hsz := Lib.hid (fun k (hk : k ≤ Wr.length) => wrsB_size (headB K T Ti L Y R Wr.length) Wr k hk)
  have Hhd := Lib.hid (show headB K T Ti L Y R Wr.length = ((((((numB K ++ numB T) ++ numB Ti) ++ numB L) ++ flagB Y) ++ textsB R) ++ numB Wr.length) from rfl)
  generalize headB K T Ti L Y R Wr.length = hd at *
  obtain ⟨n, hn⟩ : ∃ n : Nat, Wr.length = n := ⟨_, rfl⟩
  have Hn := Lib.hid hn
  obtain ⟨p', c', hv, _, _, rr⟩ := rW.form
  obtain ⟨rfl, rfl⟩ : p' = pw ∧ c' = cw := by injection hv with h1 _ h2; exact ⟨h1.symm, h2.symm⟩
  have RW := Lib.hid rr
  clear hv rr
  rw [hn] at t6 Hhd hWl ⊢
  have HWs := Lib.hid hWs
  have Htx := Lib.hid (fun u => l1TextsB_any (.slice pr R.length cr) R hRl hRs (ext (w.heap.size + 1) (w.alloc (.cells #[.int .i64 (K : Int), .int .i64 (T : Int), .int .i64 (Ti : Int), .int .i64 (L : Int), .slice pr R.length cr, .slice p' n c', .bool Y] 58)) u) ((rR.below ((below_new _ _).trans ((ext_below _ _ _).mono (by simp)))).strRow))
  have hadd0 := fun W => run_string_add_sum (P := Try.prog) (w := W) (numB K) (numB T) (by omega)
  have hadd1 := fun W => run_string_add_sum (P := Try.prog) (w := W) ((numB K) ++ numB T) (numB Ti) (by simp only [ByteArray.size_append]; omega)
  have hadd2 := fun W => run_string_add_sum (P := Try.prog) (w := W) (((numB K) ++ numB T) ++ numB Ti) (numB L) (by simp only [ByteArray.size_append]; omega)
  have hadd3 := fun W => run_string_add_sum (P := Try.prog) (w := W) ((((numB K) ++ numB T) ++ numB Ti) ++ numB L) (flagB Y) (by simp only [ByteArray.size_append]; omega)
  have hadd4 := fun W => run_string_add_sum (P := Try.prog) (w := W) (((((numB K) ++ numB T) ++ numB Ti) ++ numB L) ++ flagB Y) (textsB R) (by simp only [ByteArray.size_append]; omega)
  have hadd5 := fun W => run_string_add_sum (P := Try.prog) (w := W) ((((((numB K) ++ numB T) ++ numB Ti) ++ numB L) ++ flagB Y) ++ textsB R) (numB n) (by simp only [ByteArray.size_append]; omega)
  clear hn rW rR hR hW hRs hWs
  have Hfl := Lib.hid (l4Flag_any Y)
  have hnI : (n : Int) ≤ 1048576 := by omega
  go_enter Try.func74, Try.ntmps74
  go_wp2_with fail
  have hx2 := fun (u : World) (b o : Nat) (h : b < w.heap.size + 1) => ext_cell (w.alloc (.cells #[.int .i64 (K : Int), .int .i64 (T : Int), .int .i64 (Ti : Int), .int .i64 (L : Int), .slice pr R.length cr, .slice p' n c', .bool Y] 58)) u b o h
  refine wp_region_ext (by kernel_rfl) (by kernel_rfl) (w.heap.size + 1) ?_
  repeat (any_goals (go_big_quiet_step ((first | (go_at_call 122; exact calls_ext (by first | (simp; done) | omega | (simp; omega)) (l1NumB_b _ (by omega) _)) | (go_at_call 124; exact calls_ext_same (Hfl.out _)) | (go_at_call 125; exact calls_ext (by first | (simp; done) | omega | (simp; omega)) (Htx.out _))))))
  refine wpQuiet_nil ?_
  intro w2 hb2
  clear hx2
  rw [← Hhd.out]
  have c5 : w2.cell? ⟨w.heap.size, 5, none⟩ = some (.slice p' n c') := (hb2.cell (p := ⟨w.heap.size, 5, none⟩) (by simp)).trans (by simp [go_sem])
  have b2 : Below w.heap.size w w2 := (below_new w _).trans (hb2.mono (by simp))
  clear hadd0 hadd1 hadd2 hadd3 hadd4 hadd5 Htx hb2 t0 t1 t2 t3 t4 t5 t6 Hfl
  go_wp2
  go_loopw [3, 37] (fun o i wr => ∃ k : Nat, i = .int .i64 (k : Int) ∧ k ≤ n ∧ o = .string (wrsB hd (Wr.take k)) ∧ Below w.heap.size w wr) (fun _ i _ => n - (intOf i).toNat)
  case atStart => exact ⟨0, rfl, Nat.zero_le _, rfl, b2⟩
  case round =>
    obtain ⟨k, rfl, hk, rfl, hb⟩ := hrel
    by_cases hlt : k < n
    · have hlt2 : (k : Int) < (n : Int) := by omega
      have hkl : k < Wr.length := by have := Hn.out; omega
      obtain ⟨g, o, rfl, hg, hc⟩ := RW.out (by have := Hn.out; omega)
      have at0 := (hc k hkl).below hg hb
      have hgl : g < wr.heap.size := by have := hb.size; omega
      have Ht := Lib.hid (show wrsB hd (Wr.take (k + 1)) = wrsB hd (Wr.take k) ++ ((textB Wr[k].Key ++ flagB Wr[k].Gone) ++ textB Wr[k].Val) from by rw [List.take_succ_eq_append_getElem hkl, wrsB_snoc]; rfl)
      have hcst : costWrite Wr[k] ≤ 1048576 := Nat.le_trans (sumC_get costWrite Wr k hkl) HWs.out
      have hst : (wrsB hd (Wr.take k)).size ≤ 20000000 := by have h1 := Hsz.out k (by omega); have := Hh.out; have := HWs.out; omega
      obtain ⟨x, es⟩ : ∃ x, Wr[k] = x := ⟨_, rfl⟩
      rw [es] at at0 Ht hcst
      obtain ⟨d0, d1, d2, z0, z1⟩ := at_write at0
      rw [show o + k * Cod.write.size = o + k * 3 from rfl] at *
      have hkey : x.Key.size ≤ 1048576 := by unfold costWrite at hcst; omega
      have hval : x.Val.size ≤ 1048576 := by unfold costWrite at hcst; omega
      have t0 := textB_size x.Key
      have t1 := flagB_size x.Gone
      have t2 := textB_size x.Val
      obtain ⟨t, ht⟩ : ∃ t, wrsB hd (Wr.take k) = t := ⟨_, rfl⟩
      rw [ht] at Ht hst ⊢
      have hadd0 := fun W => run_string_add_sum (P := Try.prog) (w := W) (textB x.Key) (flagB x.Gone) (by omega)
      have hadd1 := fun W => run_string_add_sum (P := Try.prog) (w := W) (textB x.Key ++ flagB x.Gone) (textB x.Val) (by rw [ByteArray.size_append]; omega)
      have hadd2 := fun W => run_string_add_sum (P := Try.prog) (w := W) t ((textB x.Key ++ flagB x.Gone) ++ textB x.Val) (by rw [ByteArray.size_append, ByteArray.size_append]; omega)
      have Hf := Lib.hid (l4Flag_any x.Gone)
      clear hc es hkl at0 z0 z1 ht hcst c5 t0 t1 t2 hst
      go_wp2_with fail
      have hx2 := fun (u : World) (b o : Nat) (h : b < wr.heap.size + 1) => ext_cell (wr.alloc (.cells #[.string x.Key, .string x.Val, .bool x.Gone] 81)) u b o h
      refine wp_region_ext (by kernel_rfl) (by kernel_rfl) (wr.heap.size + 1) ?_
      repeat (any_goals (go_big_quiet_step ((first | (go_at_call 126; exact calls_ext (by first | (simp; done) | omega | (simp; omega)) (l1TextB_any _ (by omega) _)) | (go_at_call 124; exact calls_ext_same (Hf.out _))))))
      refine wpQuiet_nil ?_
      intro w3 hb3
      clear hx2 hadd0 hadd1 hadd2
      go_wp2
      go_roundw
      case rel => exact ⟨k + 1, by go_num, by omega, by rw [Ht.out], (below_alloc _ hb).trans (hb3.mono (by have := hb.size; omega))⟩
      case measure => simp [intOf]; omega
    · have hlt2 : (n : Int) ≤ (k : Int) := by omega
      obtain rfl : k = n := by omega
      have hf : Wr.take k = Wr := List.take_of_length_le (by have := Hn.out; omega)
      have hst : (wrsB hd (Wr.take k)).size ≤ 20000000 := by have h1 := Hsz.out k (by have := Hn.out; omega); have := Hh.out; have := HWs.out; omega
      rw [hf] at hst ⊢
      have Hs := Lib.hid (l1Seal_any (wrsB hd Wr) (by omega))
      clear hst c5 hf
      go_wp2_with fail
      refine (Hs.out _).mono ?_
      rintro e w3 ⟨rfl, k3⟩
      go_wp2
      go_ret
      exact ⟨rfl, below_after k3 hb⟩


theorem goodRB_bounds {x : RecD} (h : goodRB x = true) : (0 ≤ x.Kind ∧ x.Kind ≤ 4) ∧ (0 ≤ x.Txn ∧ x.Txn ≤ 60) ∧ (0 ≤ x.Time ∧ x.Time ≤ 100000) ∧ 0 ≤ x.Lead ∧ x.Lead ≤ 3 := by
  rcases rec_kinds x.Kind with k | k | k | k
  · rw [goodRB_1 k] at h
    unfold prepB at h
    simp only [Bool.and_eq_true, inB_iff] at h
    obtain ⟨h1, h2, h3, _⟩ := h
    omega
  · rw [goodRB_2 k] at h
    unfold doneB bareB at h
    simp only [Bool.and_eq_true, inB_iff, decide_eq_true_eq] at h
    obtain ⟨⟨h1, _⟩, h2, h3⟩ := h
    cases hy : x.Yes
    · rw [hy] at h3
      have h4 : x.Time = 0 := by simpa using h3
      omega
    · rw [hy] at h3
      have h4 := inB_iff.1 (show inB x.Time 1 100000 = true from h3)
      omega
  · rw [goodRB_4 k] at h
    unfold floorB bareB at h
    simp only [Bool.and_eq_true, inB_iff, decide_eq_true_eq] at h
    obtain ⟨⟨h1, _⟩, h2, h3, _⟩ := h
    omega
  · rw [goodRB_no k] at h
    cases h

/-- What RecBytes returns. -/
noncomputable def recR (x : RecD) : ByteArray := bif goodRB x then sealB (wrsB (headB x.Kind.toNat x.Txn.toNat x.Time.toNat x.Lead.toNat x.Yes x.Reads x.Writes.length) x.Writes) else ⟨#[]⟩


theorem to_rds {w : World} {y : RecD} {a b : Value} {f : List Nat} (h : Cod.recd.rd w (lst [.int .i64 y.Kind, .int .i64 y.Txn, .int .i64 y.Time, .int .i64 y.Lead, a, b, .bool y.Yes]) y f) : Rd Cod.str w a y.Reads ∧ Rd Cod.write w b y.Writes := by
  obtain ⟨_, _, _, _, ⟨_, h1, r1⟩, ⟨_, h2, r2⟩, _⟩ := rd_recd h
  obtain rfl := Option.some.inj h1
  obtain rfl := Option.some.inj h2
  exact ⟨r1, r2⟩

end Go.Proofs.Ytbkhooklieangaa
