/- spec.l5ReadOp. -/
import Derived.Test.YtpiheobpobclgaaDoorReadOpsR
import Derived.Test.YtpiheobpobclgaaDoorNumG
import Derived.Test.YtpiheobpobclgaaDoorBlk
namespace Go.Proofs.YtpiheobpobclgaaDoor
open Go.RowKit Go.Lib

/-- The kind behind the first k words. -/
def kindAt (u : ByteArray) : Nat → Int
  | 0 => 0
  | k + 1 => if 0 < k ∧ wordL.getD k ⟨#[]⟩ = u then (k : Int) else kindAt u k
theorem kindAt_8 (u : ByteArray) : kindAt u 8 = kindS u := by
  simp only [kindAt, wordL, kindS]
  simp [eq_comm]

theorem spl_ne (c : UInt8) : ∀ (l cur : List UInt8), spl c cur l ≠ []
  | [], _ => by simp [spl]
  | b :: r, cur => by
    unfold spl
    split
    · simp
    · exact spl_ne c r _

set_option maxRecDepth 100000 in
/-- spec.l5Words, all eight. -/
theorem l5Words8_any (w : World) : Calls Tryd.prog 51 #[] w fun e w' => ∃ N : Nat, e = .returned (.slice (some ⟨N, 0, none⟩) 8 8) ∧ w.heap.size ≤ N ∧ N < w'.heap.size ∧ (∀ j, j < 8 → w'.cell? ⟨N, j, none⟩ = some (.string (wordL.getD j ⟨#[]⟩))) ∧ Below w.heap.size w w' := by
  go_enter Tryd.func51, Tryd.ntmps51
  go_wp2
  go_ret
  refine ⟨w.heap.size, rfl, Nat.le_refl _, by simp, fun j hj => ?_, by (repeat (first | (with_reducible exact Below.refl _ _) | (with_reducible refine below_setCell ?_ (by first | (simp; done) | (simp; omega) | omega)) | (with_reducible refine below_alloc _ ?_) | (with_reducible refine below_drewN ?_ _) | (with_reducible assumption) | (with_reducible refine below_after (by assumption) ?_)))⟩
  rcases (show j = 0 ∨ j = 1 ∨ j = 2 ∨ j = 3 ∨ j = 4 ∨ j = 5 ∨ j = 6 ∨ j = 7 by omega) with rfl | rfl | rfl | rfl | rfl | rfl | rfl | rfl <;> (simp [go_sem]; rfl)

set_option maxRecDepth 100000 in
/-- impl.opWords, all eight. -/
theorem opWords8_any (w : World) : Calls Tryd.prog 46 #[] w fun e w' => ∃ N : Nat, e = .returned (.slice (some ⟨N, 0, none⟩) 8 8) ∧ w.heap.size ≤ N ∧ N < w'.heap.size ∧ (∀ j, j < 8 → w'.cell? ⟨N, j, none⟩ = some (.string (wordL.getD j ⟨#[]⟩))) ∧ Below w.heap.size w w' := by
  go_enter Tryd.func46, Tryd.ntmps46
  go_wp2
  go_ret
  refine ⟨w.heap.size, rfl, Nat.le_refl _, by simp, fun j hj => ?_, by (repeat (first | (with_reducible exact Below.refl _ _) | (with_reducible refine below_setCell ?_ (by first | (simp; done) | (simp; omega) | omega)) | (with_reducible refine below_alloc _ ?_) | (with_reducible refine below_drewN ?_ _) | (with_reducible assumption) | (with_reducible refine below_after (by assumption) ?_)))⟩
  rcases (show j = 0 ∨ j = 1 ∨ j = 2 ∨ j = 3 ∨ j = 4 ∨ j = 5 ∨ j = 6 ∨ j = 7 by omega) with rfl | rfl | rfl | rfl | rfl | rfl | rfl | rfl <;> (simp [go_sem]; rfl)

theorem spl_size (c : UInt8) : ∀ (l cur : List UInt8), ∀ p ∈ spl c cur l, p.length ≤ cur.length + l.length
  | [], cur, p, h => by
    have h : p ∈ [cur] := h
    rw [List.mem_singleton] at h
    subst h
    exact Nat.le_add_right _ _
  | b :: r, cur, p, h => by
    unfold spl at h
    simp only [List.length_cons]
    split at h
    · rcases List.mem_cons.1 h with rfl | h
      · omega
      · have := spl_size c r [] p h
        simp at this
        omega
    · have := spl_size c r _ p h
      simp at this
      omega
theorem spl_sizes {c : UInt8} {s : ByteArray} {xs : List ByteArray} (h : xs.map (·.data.toList) = spl c [] s.data.toList) {x : ByteArray} (hx : x ∈ xs) : x.size ≤ s.size := by
  have h1 := spl_size c s.data.toList [] x.data.toList (by rw [← h]; exact List.mem_map_of_mem hx)
  have h2 : x.data.toList.length = x.size := by rw [Array.length_toList]; rfl
  have h3 : s.data.toList.length = s.size := by rw [Array.length_toList]; rfl
  rw [List.length_nil] at h1
  omega

/-- What spec.l5ReadOp says. -/
def ReadOpPost (s : ByteArray) (w : World) (e : Ending) (w' : World) : Prop := ∃ xs : List ByteArray, xs.map (·.data.toList) = spl 32 [] s.data.toList ∧ e = .returned (.agg #[.int .i64 (opSp xs).Kind, .string (opSp xs).Key, .string (opSp xs).Val, .int .i64 (opSp xs).By]) ∧ Below w.heap.size w w'
theorem readOp_post {s : ByteArray} {w w' : World} {xs : List ByteArray} {K B : Int} {a b : ByteArray} (h : xs.map (·.data.toList) = spl 32 [] s.data.toList) (he : opSp xs = ⟨K, a, b, B⟩) (hb : Below w.heap.size w w') : ReadOpPost s w (.returned (.agg #[.int .i64 K, .string a, .string b, .int .i64 B])) w' := by
  refine ⟨xs, h, ?_, hb⟩
  rw [he]

set_option maxRecDepth 100000 in
set_option maxHeartbeats 3200000 in
/-- spec.l5ReadOp -/
theorem l5ReadOp_any (s : ByteArray) (hs : s.size ≤ 400) (w : World) : Calls Tryd.prog 43 #[.string s] w (ReadOpPost s w) := by
  have H32 := Lib.hid (fun W => l1Split_any s 32 hs W)
  rw [show (((32 : UInt8).toNat : Nat) : Int) = 32 from rfl] at H32
  have Hs := Lib.hid hs
  clear hs
  go_enter Tryd.func43, Tryd.ntmps43
  go_wp2_with fail
  refine (H32.out _).mono ?_
  rintro e w1 ⟨v1, xs, rfl, o1, hx, k1⟩
  have Z := (Blk.new w 53 #[.int .i64 0, .string ⟨#[]⟩, .string ⟨#[]⟩, .int .i64 0]).below k1
  have Hx := Lib.hid hx
  have hn0 : 0 < xs.length := List.length_pos_iff.2 fun e => by subst e; exact spl_ne _ _ _ hx.symm
  obtain ⟨p1, c1, hv, r1⟩ := o1.rd.strRow
  obtain ⟨g, o, rfl, hg, hc⟩ := r1 hn0
  have HC := Lib.hid hc
  obtain ⟨u, hu⟩ : ∃ u, xs[0] = u := ⟨_, rfl⟩
  have hc0 : w1.cell? ⟨g, o, none⟩ = some (.string u) := by have := hc 0 hn0; rw [hu] at this; simpa using this
  have Hg0 : Hid (xs.getD 0 ⟨#[]⟩ = u) := Lib.hid (by rw [List.getD_eq_getElem?_getD, List.getElem?_eq_getElem hn0, hu]; rfl)
  obtain ⟨n, hn⟩ : ∃ n, xs.length = n := ⟨_, rfl⟩
  have Hn := Lib.hid hn
  rw [hn] at hv hn0
  subst hv
  have b1 : Below w.heap.size w w1 := below_after k1 (by (repeat (first | (with_reducible exact Below.refl _ _) | (with_reducible refine below_setCell ?_ (by first | (simp; done) | (simp; omega) | omega)) | (with_reducible refine below_alloc _ ?_) | (with_reducible refine below_drewN ?_ _) | (with_reducible assumption) | (with_reducible refine below_after (by assumption) ?_))))
  have q1 : w.heap.size < w1.heap.size := Z.lt
  have hnI : (0 : Int) < (n : Int) := by omega
  clear hc r1 o1 hx k1 H32 hn hu
  go_wp2_with fail
  refine (l5Words8_any _).mono ?_
  rintro e w2 ⟨N, rfl, hN, hN2, hw, k2⟩
  have hN3 : w1.heap.size < N := by simp at hN; omega
  have b2 : Below w1.heap.size w1 w2 := below_after k2 (by (repeat (first | (with_reducible exact Below.refl _ _) | (with_reducible refine below_setCell ?_ (by first | (simp; done) | (simp; omega) | omega)) | (with_reducible refine below_alloc _ ?_) | (with_reducible refine below_drewN ?_ _) | (with_reducible assumption) | (with_reducible refine below_after (by assumption) ?_))))
  have C := (Blk.new w1 53 #[.int .i64 0, .string ⟨#[]⟩, .string ⟨#[]⟩, .int .i64 0]).below k2
  have HW := Lib.hid hw
  clear hw k2
  replace Z := Z.below b2
  go_wp2_with fail
  go_loopw [13] (fun i wr => ∃ k : Nat, i = .int .i64 (k : Int) ∧ k ≤ 8 ∧ Hid (Blk wr w.heap.size 53 #[.int .i64 0, .string ⟨#[]⟩, .string ⟨#[]⟩, .int .i64 0]) ∧ Hid (Blk wr w1.heap.size 53 #[.int .i64 (kindAt u k), .string ⟨#[]⟩, .string ⟨#[]⟩, .int .i64 0]) ∧ Hid (∀ j, j < 8 → wr.cell? ⟨N, j, none⟩ = some (.string (wordL.getD j ⟨#[]⟩))) ∧ Below w1.heap.size w1 wr) (fun i _ => 8 - (RowKit.intOf i).toNat)
  case atStart => exact ⟨0, rfl, Nat.zero_le _, Lib.hid Z, Lib.hid C, HW, b2⟩
  case round =>
    obtain ⟨k, rfl, hk, HZ, HCb, HW', hb⟩ := hrel
    clear Z C HW b2
    have u0 : wr.cell? ⟨g, o, none⟩ = some (.string u) := (hb.cell (p := ⟨g, o, none⟩) hg).trans hc0
    have zz : w1.heap.size < wr.heap.size := HCb.out.lt
    have d0 := HCb.out.cell 0 (v := .int .i64 (kindAt u k)) rfl
    have d1 := HCb.out.cell 1 (v := .string ⟨#[]⟩) rfl
    have d2 := HCb.out.cell 2 (v := .string ⟨#[]⟩) rfl
    have d3 := HCb.out.cell 3 (v := .int .i64 0) rfl
    have f0 := HCb.out.frozen 0
    have f1 := HCb.out.frozen 1
    have f2 := HCb.out.frozen 2
    have f3 := HCb.out.frozen 3
    by_cases hlt : k < 8
    · have hlt2 : (k : Int) < 8 := by omega
      have hwk := HW'.out k hlt
      have hNb : N ≠ w1.heap.size := by omega
      have hnx : Hid (kindAt u (k + 1) = if 0 < k ∧ wordL.getD k ⟨#[]⟩ = u then (k : Int) else kindAt u k) := Lib.hid rfl
      generalize wordL.getD k ⟨#[]⟩ = x at *
      by_cases hk0 : 0 < k
      · have hk0I : 0 < (k : Int) := by omega
        by_cases hxu : x = u
        · subst hxu
          have HC2 := HCb.out.set 0 (.int .i64 (k : Int))
          have HZ2 := HZ.out.other (b := w1.heap.size) 0 (.int .i64 (k : Int)) (by omega)
          have HC3 := Lib.hid HC2
          have HZ3 := Lib.hid HZ2
          clear HC2 HZ2
          go_wp2
          go_roundw
          case rel => exact ⟨k + 1, by go_num, by omega, HZ3, Lib.hid (by rw [hnx.out, if_pos ⟨hk0, rfl⟩]; exact HC3.out), Lib.hid (fun j hj => by simp [go_sem, hNb]; exact HW'.out j hj), by (repeat (first | (with_reducible exact Below.refl _ _) | (with_reducible refine below_setCell ?_ (by first | (simp; done) | (simp; omega) | omega)) | (with_reducible refine below_alloc _ ?_) | (with_reducible refine below_drewN ?_ _) | (with_reducible assumption) | (with_reducible refine below_after (by assumption) ?_)))⟩
          case measure => simp [RowKit.intOf]; omega
        · have hq := str_ne hxu
          have Hxn := Lib.hid hxu
          clear hxu
          go_wp2
          go_roundw
          case rel => exact ⟨k + 1, by go_num, by omega, HZ, Lib.hid (by rw [hnx.out, if_neg (fun h => Hxn.out h.2)]; exact HCb.out), HW', hb⟩
          case measure => simp [RowKit.intOf]; omega
      · obtain rfl : k = 0 := by omega
        go_wp2
        go_roundw
        case rel => exact ⟨1, by go_num, by omega, HZ, Lib.hid (by rw [hnx.out, if_neg (fun h => hk0 h.1)]; exact HCb.out), HW', hb⟩
        case measure => simp [RowKit.intOf]
    · have hlt2 : 8 ≤ (k : Int) := by omega
      obtain rfl : k = 8 := by omega
      have hK := kindAt_8 u
      obtain ⟨K, HK⟩ : ∃ K, Hid (kindS u = K) := ⟨_, Lib.hid rfl⟩
      rw [HK.out] at hK
      rw [hK] at d0
      have bw : Below w.heap.size w wr := b1.trans (hb.mono b1.size)
      have hzne : w.heap.size ≠ w1.heap.size := by omega
      have z0 := HZ.out.cell 0 (v := .int .i64 0) rfl
      have z1 := HZ.out.cell 1 (v := .string ⟨#[]⟩) rfl
      have z2 := HZ.out.cell 2 (v := .string ⟨#[]⟩) rfl
      have z3 := HZ.out.cell 3 (v := .int .i64 0) rfl
      have y0 := HZ.out.frozen 0
      have y1 := HZ.out.frozen 1
      have y2 := HZ.out.frozen 2
      have y3 := HZ.out.frozen 3
      clear HW' hN hN2 hN3 hlt hk hK HZ HCb
      have Hop : Hid (opSp xs = ⟨K, if 1 < xs.length then xs.getD 1 ⟨#[]⟩ else ⟨#[]⟩, if 2 < xs.length ∧ (K = 2 ∨ K = 7) then xs.getD 2 ⟨#[]⟩ else ⟨#[]⟩, if 2 < xs.length ∧ ¬ (K = 2 ∨ K = 7) then (readS (xs.getD 2 ⟨#[]⟩).data.toList).1 else 0⟩) := Lib.hid (by unfold opSp; rw [Hg0.out, HK.out])
      by_cases hn1 : n = 1
      · subst hn1
        have Ho : Hid (opSp xs = ⟨K, ⟨#[]⟩, ⟨#[]⟩, 0⟩) := Lib.hid (by rw [Hop.out, Hn.out]; simp)
        clear Hop
        go_wp2
        refine bodyPost_ret (v := .agg #[.int .i64 K, .string ⟨#[]⟩, .string ⟨#[]⟩, .int .i64 0]) (by simp [results, Tryd.results43, go_sem, z0, z1, z2, z3, y0, y1, y2, y3]) rfl ?_
        exact readOp_post Hx.out Ho.out (by (repeat (first | (with_reducible exact Below.refl _ _) | (with_reducible refine below_setCell ?_ (by first | (simp; done) | (simp; omega) | omega)) | (with_reducible refine below_alloc _ ?_) | (with_reducible refine below_drewN ?_ _) | (with_reducible assumption) | (with_reducible refine below_after (by assumption) ?_))))
      have h1n : 1 < xs.length := by have := Hn.out; omega
      have h1nI : (1 : Int) < (n : Int) := by omega
      obtain ⟨v, hv⟩ : ∃ v, xs[1] = v := ⟨_, rfl⟩
      have v0 : wr.cell? ⟨g, o + 1, none⟩ = some (.string v) := (hb.cell (p := ⟨g, o + 1, none⟩) hg).trans (by have := HC.out 1 h1n; rw [hv] at this; exact this)
      have Hg1 : Hid (xs.getD 1 ⟨#[]⟩ = v) := Lib.hid (by rw [List.getD_eq_getElem?_getD, List.getElem?_eq_getElem h1n, hv]; rfl)
      by_cases hn2 : n = 2
      · subst hn2
        have Ho : Hid (opSp xs = ⟨K, v, ⟨#[]⟩, 0⟩) := Lib.hid (by rw [Hop.out, Hn.out, Hg1.out]; simp)
        clear Hop hv
        go_wp2
        refine bodyPost_ret (v := .agg #[.int .i64 K, .string v, .string ⟨#[]⟩, .int .i64 0]) (by simp [results, Tryd.results43, go_sem, z0, z1, z2, z3, y0, y1, y2, y3, hzne]) rfl ?_
        exact readOp_post Hx.out Ho.out (by (repeat (first | (with_reducible exact Below.refl _ _) | (with_reducible refine below_setCell ?_ (by first | (simp; done) | (simp; omega) | omega)) | (with_reducible refine below_alloc _ ?_) | (with_reducible refine below_drewN ?_ _) | (with_reducible assumption) | (with_reducible refine below_after (by assumption) ?_))))
      have h2n : 2 < xs.length := by have := Hn.out; omega
      have h2nI : (2 : Int) < (n : Int) := by omega
      obtain ⟨x, hxv⟩ : ∃ x, xs[2] = x := ⟨_, rfl⟩
      have x0 : wr.cell? ⟨g, o + 2, none⟩ = some (.string x) := (hb.cell (p := ⟨g, o + 2, none⟩) hg).trans (by have := HC.out 2 h2n; rw [hxv] at this; exact this)
      have Hg2 : Hid (xs.getD 2 ⟨#[]⟩ = x) := Lib.hid (by rw [List.getD_eq_getElem?_getD, List.getElem?_eq_getElem h2n, hxv]; rfl)
      have hxs : x.size ≤ 1048576 := by have := spl_sizes Hx.out (x := x) (by rw [← hxv]; exact List.getElem_mem h2n); have := Hs.out; omega
      have hgne : g ≠ w1.heap.size := by omega
      by_cases hV : K = 2 ∨ K = 7
      · have Ho : Hid (opSp xs = ⟨K, v, x, 0⟩) := Lib.hid (by rw [Hop.out, Hg1.out, Hg2.out]; simp [h1n, h2n, hV])
        clear Hop hv hxv h1n h2n hxs
        rcases hV with rfl | rfl
        all_goals
          go_wp2
          refine bodyPost_ret (v := .agg #[.int .i64 _, .string v, .string x, .int .i64 0]) (by simp [results, Tryd.results43, go_sem, z0, z1, z2, z3, y0, y1, y2, y3, hzne]; rfl) rfl ?_
          exact readOp_post Hx.out Ho.out (by (repeat (first | (with_reducible exact Below.refl _ _) | (with_reducible refine below_setCell ?_ (by first | (simp; done) | (simp; omega) | omega)) | (with_reducible refine below_alloc _ ?_) | (with_reducible refine below_drewN ?_ _) | (with_reducible assumption) | (with_reducible refine below_after (by assumption) ?_))))
      · have Ho0 : Hid (opSp xs = ⟨K, v, ⟨#[]⟩, (readS x.data.toList).1⟩) := Lib.hid (by rw [Hop.out, Hg1.out, Hg2.out]; simp [h1n, h2n, hV])
        have HN := Lib.hid (fun W => l5Num_any x hxs W)
        obtain ⟨B, hB⟩ : ∃ B, (readS x.data.toList).1 = B := ⟨_, rfl⟩
        rw [hB] at HN Ho0
        generalize (readS x.data.toList).2 = q at *
        have hk2 : K ≠ 2 := fun e => hV (Or.inl e)
        have hk7 : K ≠ 7 := fun e => hV (Or.inr e)
        have hb2 : (K == 2) = false := by simpa using hk2
        have hb7 : (K == 7) = false := by simpa using hk7
        have Ho := Ho0
        clear Hop hv hxv h1n h2n hxs hV hB Ho0
        go_wp2_with fail
        refine (HN.out _).mono ?_
        rintro e w4 ⟨rfl, rfl⟩
        go_wp2
        refine bodyPost_ret (v := .agg #[.int .i64 K, .string v, .string ⟨#[]⟩, .int .i64 B]) (by simp [results, Tryd.results43, go_sem, z0, z1, z2, z3, y0, y1, y2, y3, hzne]) rfl ?_
        exact readOp_post Hx.out Ho.out (by (repeat (first | (with_reducible exact Below.refl _ _) | (with_reducible refine below_setCell ?_ (by first | (simp; done) | (simp; omega) | omega)) | (with_reducible refine below_alloc _ ?_) | (with_reducible refine below_drewN ?_ _) | (with_reducible assumption) | (with_reducible refine below_after (by assumption) ?_))))

end Go.Proofs.YtpiheobpobclgaaDoor
