/- A fall of a disk: walked. -/
import Derived.Test.YtkiebgmcjkfpaaaCore
namespace Go.Proofs.Ytkiebgmcjkfpaaa
open Go.RowKit

/-- The bytes of a fall: the first keep, the last of them turned where it is torn. -/
def fallL (y : ByteArray) (keep : Nat) (torn : Bool) : List UInt8 :=
  if torn = true ∧ 0 < keep then (y.data.toList.take (keep - 1)) ++ [UInt8.ofNat (255 - (y.data.toList.getD (keep - 1) 0).toNat)] else y.data.toList.take keep
def fallQ (x y : ByteArray) (keep : Int) : Bool := diskB x y && inB keep 0 y.size

theorem extract_list (y : ByteArray) (n : Nat) : (y.extract 0 n).data.toList = y.data.toList.take n := by
  rw [ByteArray.data_extract]; simp

/-- The bytes that []byte(s) lays. -/
theorem bytes_cell (W : World) (s : ByteArray) (e : TypeId) (cap : Nat) (fr : Nat × Nat) (j : Nat) (hj : j < s.data.size) : (W.alloc (.cells (bytesRow s cap) e fr)).cell? ⟨W.heap.size, j, none⟩ = some (.int .u8 (s.data[j].toNat : Int)) := by
  rw [World.cell?_alloc_mark, bytesRow_at s cap j hj]

theorem bytes_frozen (W : World) (s : ByteArray) (e : TypeId) (cap : Nat) (j : Nat) (hj : j < s.data.size) : (W.alloc (.cells (bytesRow s cap) e ((bytesRow s cap).size, (bytesRow s cap).size + 1))).frozen? ⟨W.heap.size, j, none⟩ = false := by
  rw [World.frozen?_alloc_mark]
  have h : s.data.size ≤ (bytesRow s cap).size := by simp [bytesRow]
  have h2 : ¬ (bytesRow s cap).size ≤ j := by omega
  simp [h2]

theorem bytes_back {P : Program} (W : World) (src dst e : TypeId) (y : ByteArray) (n cap : Nat) (fr : Nat × Nat) (hn : n ≤ y.size) (hs : P.underlying src = some (.slice e)) (he : P.underlying e = some (.int .u8)) (hd : P.underlying dst = some .string) :
    (convert src dst (.slice (some ⟨W.heap.size, 0, none⟩) n cap)).run P (W.alloc (.cells (bytesRow (y.extract 0 n) cap) e fr)).drew = .ok (.string ⟨(y.data.toList.take n).toArray⟩) (W.alloc (.cells (bytesRow (y.extract 0 n) cap) e fr)).drew := by
  have hl : (y.data.toList.take n).length = n := by rw [List.length_take, Array.length_toList]; exact Nat.min_eq_left hn
  have := run_convert_bytes_back (P := P) (W.alloc (.cells (bytesRow (y.extract 0 n) cap) e fr)).drew src dst e ⟨W.heap.size, 0, none⟩ cap (y.data.toList.take n) hs he hd (fun j hj => by
    rw [WideShapes.add_plain, Nat.zero_add]
    have hj2 : j < (y.extract 0 n).data.size := by rw [← Array.length_toList, extract_list]; exact hj
    have h := bytes_cell W (y.extract 0 n) e cap fr j hj2
    have e2 : (y.extract 0 n).data[j] = (y.data.toList.take n)[j] := by
      rw [← Array.getElem_toList]
      simp only [extract_list]
    rw [← e2]
    exact h)
  rwa [hl] at this

theorem bytes_back_set {P : Program} (W : World) (src dst e : TypeId) (y : ByteArray) (m cap : Nat) (fr : Nat × Nat) (hm : m < y.data.size) (hs : P.underlying src = some (.slice e)) (he : P.underlying e = some (.int .u8)) (hd : P.underlying dst = some .string) :
    (convert src dst (.slice (some ⟨W.heap.size, 0, none⟩) (m + 1) cap)).run P ((W.alloc (.cells (bytesRow (y.extract 0 (m + 1)) cap) e fr)).setCell ⟨W.heap.size, m, none⟩ (.int .u8 ((255 - (y.data[m].toNat : Int)) % 256))).drew =
      .ok (.string ⟨(y.data.toList.take m ++ [UInt8.ofNat (255 - y.data[m].toNat)]).toArray⟩) ((W.alloc (.cells (bytesRow (y.extract 0 (m + 1)) cap) e fr)).setCell ⟨W.heap.size, m, none⟩ (.int .u8 ((255 - (y.data[m].toNat : Int)) % 256))).drew := by
  have hlt := y.data[m].toNat_lt
  have hv : Value.int .u8 ((255 - (y.data[m].toNat : Int)) % 256) = byteV (UInt8.ofNat (255 - y.data[m].toNat)) := by
    rw [byteV_ofNat (by omega)]
    congr 1
    omega
  have hl : (y.data.toList.take m ++ [UInt8.ofNat (255 - y.data[m].toNat)]).length = m + 1 := by
    rw [List.length_append, List.length_take, Array.length_toList, Nat.min_eq_left (by omega)]; rfl
  have hlt2 : (y.data.toList.take m).length = m := by rw [List.length_take, Array.length_toList, Nat.min_eq_left (by omega)]
  have hcell : ∀ j, j < m + 1 → (W.alloc (.cells (bytesRow (y.extract 0 (m + 1)) cap) e fr)).cell? ⟨W.heap.size, j, none⟩ = (y.data.toList[j]?).map byteV := fun j hj => by
    have hj2 : j < (y.extract 0 (m + 1)).data.size := by rw [← Array.length_toList, extract_list, List.length_take, Array.length_toList]; omega
    rw [bytes_cell W (y.extract 0 (m + 1)) e cap fr j hj2]
    have e2 : y.data.toList[j]? = some (y.extract 0 (m + 1)).data[j] := by
      rw [← Array.getElem_toList]
      simp only [extract_list]
      rw [List.getElem_take, List.getElem?_eq_getElem]
    rw [e2]
    rfl
  have := run_convert_bytes_back (P := P) ((W.alloc (.cells (bytesRow (y.extract 0 (m + 1)) cap) e fr)).setCell ⟨W.heap.size, m, none⟩ (.int .u8 ((255 - (y.data[m].toNat : Int)) % 256))).drew src dst e ⟨W.heap.size, 0, none⟩ cap
    (y.data.toList.take m ++ [UInt8.ofNat (255 - y.data[m].toNat)]) hs he hd (fun j hj => by
    rw [WideShapes.add_plain, Nat.zero_add]
    show World.cell? (World.setCell _ _ _) _ = _
    rw [hl] at hj
    by_cases hjm : j = m
    · subst hjm
      rw [World.cell?_setCell_same _ _ _ (by rw [hcell j (by omega), List.getElem?_eq_getElem (by rw [Array.length_toList]; exact hm)]; rfl), hv]
      simp [byteV, hlt2]
    · rw [World.cell?_setCell_other _ _ _ _ (fun e => hjm (by injection e with _ e2; exact e2.symm)), hcell j hj, List.getElem?_eq_getElem (by rw [Array.length_toList]; omega), List.getElem_append_left (by omega), List.getElem_take]
      rfl)
  rwa [hl] at this

/-- impl.FallDisk -/
theorem fallDisk_no (x y : ByteArray) (keep : Int) (torn : Bool) (hx : x.size ≤ 1048576) (hy : y.size ≤ 1048576) (hq : fallQ x y keep = false) (w : World) :
    Calls Try.prog 33 #[.agg #[.string x, .string y], .int .i64 keep, .bool torn] w fun e w' => e = .returned (.tuple #[.agg #[.string ⟨#[]⟩, .string ⟨#[]⟩], .bool false]) ∧ Below w.heap.size w w' := by
  have Hc := Lib.hid (goodDisk_any x y (by omega) (by omega))
  have Hd := Lib.hid (within_any keep 0 y.size)
  unfold fallQ at hq
  generalize diskB x y = q at *
  generalize inB keep 0 y.size = r at *
  cases q
  · go_enter Try.func33, Try.ntmps33
    go_wp2_with (go_at_call 82; refine (Hc.out _).mono ?_; rintro e w1 ⟨rfl, k⟩; have hx := bcell k; have hz := k.size)
    refine bodyPost_ret (v := .tuple #[.agg #[.string ⟨#[]⟩, .string ⟨#[]⟩], .bool false]) (by simp [results, Try.results33, go_sem, hx.1]) rfl ⟨rfl, ?_⟩
    (repeat (first | exact Below.refl _ _ | exact below_new _ _ | refine below_setCell ?_ (by first | (simp; done) | (simp; omega) | omega) | refine below_alloc _ ?_ | refine below_drewN ?_ _ | refine below_after (by assumption) ?_ | assumption))
  · cases r
    · go_enter Try.func33, Try.ntmps33
      go_wp2_with (first | (go_at_call 82; refine (Hc.out _).mono ?_; rintro e w1 ⟨rfl, k⟩; have hx := bcell k; have hz := k.size) | (go_at_call 87; refine (Hd.out _).mono ?_; rintro e w1 ⟨rfl, rfl⟩))
      refine bodyPost_ret (v := .tuple #[.agg #[.string ⟨#[]⟩, .string ⟨#[]⟩], .bool false]) (by simp [results, Try.results33, go_sem, hx.1]) rfl ⟨rfl, ?_⟩
      (repeat (first | exact Below.refl _ _ | exact below_new _ _ | refine below_setCell ?_ (by first | (simp; done) | (simp; omega) | omega) | refine below_alloc _ ?_ | refine below_drewN ?_ _ | refine below_after (by assumption) ?_ | assumption))
    · simp at hq

theorem fallDisk_yes (x y : ByteArray) (keep : Int) (torn : Bool) (hx : x.size ≤ 1048576) (hy : y.size ≤ 1048576) (hq : fallQ x y keep = true) (w : World) :
    Calls Try.prog 33 #[.agg #[.string x, .string y], .int .i64 keep, .bool torn] w fun e w' => e = .returned (.tuple #[.agg #[.string (x ++ ⟨(fallL y keep.toNat torn).toArray⟩), .string ⟨#[]⟩], .bool true]) ∧ Below w.heap.size w w' := by
  have Hc := Lib.hid (goodDisk_any x y (by omega) (by omega))
  have Hd := Lib.hid (within_any keep 0 y.size)
  unfold fallQ at hq
  rw [Bool.and_eq_true] at hq
  rw [hq.1] at Hc
  rw [hq.2] at Hd
  obtain ⟨h0, h1⟩ := inB_iff.1 hq.2
  clear hq
  obtain ⟨n, rfl⟩ := Int.eq_ofNat_of_zero_le h0
  rw [Int.toNat_natCast]
  have hn : n ≤ y.size := by omega
  clear h0
  have hcv := fun W => run_bytes_of_string (P := Try.prog) W 9 48 5 (y.extract 0 n) Try.underlying9 Try.underlying48 Try.underlying5
  have hsz : (y.extract 0 n).size = n := by rw [ByteArray.size_extract]; omega
  have hback := fun W cap fr => bytes_back (P := Try.prog) W 48 9 5 y n cap fr hn Try.underlying48 Try.underlying5 Try.underlying9
  have hadd := fun W (l : List UInt8) (hl : l.length ≤ 1048576) => run_string_add_sum (P := Try.prog) (w := W) x ⟨l.toArray⟩ (by have : (⟨l.toArray⟩ : ByteArray).size = l.length := rfl; omega)
  have hlen : (y.data.toList.take n).length ≤ 1048576 := by have : y.data.size = y.size := rfl; simp; omega
  have plain : torn = false ∨ n = 0 → fallL y n torn = y.data.toList.take n := fun h => by
    unfold fallL
    rw [if_neg]
    rcases h with h | h <;> simp [h]
  have fin : ∀ L : List UInt8, fallL y n torn = L → Ending.returned (.tuple #[.agg #[.string (x ++ ⟨L.toArray⟩), .string ⟨#[]⟩], .bool true]) = Ending.returned (.tuple #[.agg #[.string (x ++ ⟨(fallL y n torn).toArray⟩), .string ⟨#[]⟩], .bool true]) := fun L h => by rw [h]
  have Fin := Lib.hid fin
  have Plain := Lib.hid plain
  clear fin plain
  cases torn
  · go_enter Try.func33, Try.ntmps33
    go_wp2_with (first | (go_at_call 82; refine (Hc.out _).mono ?_; rintro e w1 ⟨rfl, k⟩; have hx := bcell k; have hl0 : w.heap.size < w1.heap.size := (by have := k.size; simp at this; omega); have hl1 : w.heap.size + 1 < w1.heap.size := (by have := k.size; simp at this; omega)) | (go_at_call 87; refine (Hd.out _).mono ?_; rintro e w1 ⟨rfl, rfl⟩))
    refine bodyPost_ret (v := .tuple #[.agg #[.string (x ++ ⟨(y.data.toList.take n).toArray⟩), .string ⟨#[]⟩], .bool true]) (by simp [results, Try.results33, go_sem, hx.1, hl0, hl1]) rfl ⟨Fin.out _ (Plain.out (by simp)), ?_⟩
    refine Below.drew ?_
    (repeat (first | exact Below.refl _ _ | exact below_new _ _ | refine below_setCell ?_ (by first | (simp; done) | (simp; omega) | omega) | refine below_alloc _ ?_ | refine below_drewN ?_ _ | refine below_after (by assumption) ?_ | assumption))
  · obtain rfl | ⟨m, rfl⟩ : n = 0 ∨ ∃ m, n = m + 1 := by cases n <;> simp
    · have e0 : ((0 : Nat) : Int) = 0 := rfl
      rw [e0] at Hd ⊢
      clear e0 h1
      have ee : y.extract 0 0 = ByteArray.empty := by simp
      rw [ee] at hcv hback hsz
      have hcv0 := hcv
      have hback0 : ∀ (W : World) (cap : Nat) (fr : Nat × Nat), (convert 48 9 (.slice (some ⟨W.heap.size, 0, none⟩) 0 cap)).run Try.prog (W.alloc (.cells (bytesRow ByteArray.empty cap) 5 fr)).drew = .ok (.string ⟨#[]⟩) (W.alloc (.cells (bytesRow ByteArray.empty cap) 5 fr)).drew := fun W cap fr => hback W cap fr
      have hadd0 := fun W => hadd W [] (by simp)
      clear ee hcv hback hadd
      go_enter Try.func33, Try.ntmps33
      go_wp2_with (first | (go_at_call 82; refine (Hc.out _).mono ?_; rintro e w1 ⟨rfl, k⟩; have hx := bcell k; have hl0 : w.heap.size < w1.heap.size := (by have := k.size; simp at this; omega); have hl1 : w.heap.size + 1 < w1.heap.size := (by have := k.size; simp at this; omega)) | (go_at_call 87; refine (Hd.out _).mono ?_; rintro e w1 ⟨rfl, rfl⟩))
      refine bodyPost_ret (v := .tuple #[.agg #[.string (x ++ ⟨(y.data.toList.take 0).toArray⟩), .string ⟨#[]⟩], .bool true]) (by simp [results, Try.results33, go_sem, hx.1, hl0, hl1]) rfl ⟨Fin.out _ (Plain.out (by simp)), ?_⟩
      refine Below.drew ?_
      (repeat (first | exact Below.refl _ _ | exact below_new _ _ | refine below_setCell ?_ (by first | (simp; done) | (simp; omega) | omega) | refine below_alloc _ ?_ | refine below_drewN ?_ _ | refine below_after (by assumption) ?_ | assumption))
    · have hm : m < (y.extract 0 (m + 1)).data.size := by rw [← Array.length_toList, extract_list]; simp; omega
      have hcell := fun W cap fr => bytes_cell W (y.extract 0 (m + 1)) 5 cap fr m hm
      have hfz := fun W cap => bytes_frozen W (y.extract 0 (m + 1)) 5 cap m hm
      have hm2 : m < y.data.size := hn
      have hset := fun W cap fr => bytes_back_set (P := Try.prog) W 48 9 5 y m cap fr hm2 Try.underlying48 Try.underlying5 Try.underlying9
      have hlen2 : (y.data.toList.take m ++ [UInt8.ofNat (255 - y.data[m].toNat)]).length ≤ 1048576 := by have : y.data.size = y.size := rfl; simp; omega
      have Tf := Lib.hid (show fallL y (m + 1) true = y.data.toList.take m ++ [UInt8.ofNat (255 - y.data[m].toNat)] from by
        unfold fallL
        rw [if_pos ⟨rfl, by omega⟩, Nat.add_sub_cancel, List.getD_eq_getElem?_getD, List.getElem?_eq_getElem (by rw [Array.length_toList]; exact hm2), Option.getD_some, Array.getElem_toList])
      go_enter Try.func33, Try.ntmps33
      go_wp2_with (first | (go_at_call 82; refine (Hc.out _).mono ?_; rintro e w1 ⟨rfl, k⟩; have hx := bcell k; have hl0 : w.heap.size < w1.heap.size := (by have := k.size; simp at this; omega); have hl1 : w.heap.size + 1 < w1.heap.size := (by have := k.size; simp at this; omega)) | (go_at_call 87; refine (Hd.out _).mono ?_; rintro e w1 ⟨rfl, rfl⟩))
      refine bodyPost_ret (v := .tuple #[.agg #[.string (x ++ ⟨(y.data.toList.take m ++ [UInt8.ofNat (255 - y.data[m].toNat)]).toArray⟩), .string ⟨#[]⟩], .bool true]) (by simp [results, Try.results33, go_sem, hx.1, hl0, hl1]) rfl ⟨Fin.out _ Tf.out, ?_⟩
      refine Below.drew ?_
      (repeat (first | exact Below.refl _ _ | exact below_new _ _ | refine below_setCell ?_ (by first | (simp; done) | (simp; omega) | omega) | refine below_alloc _ ?_ | refine below_drewN ?_ _ | refine below_after (by assumption) ?_ | assumption))

end Go.Proofs.Ytkiebgmcjkfpaaa
