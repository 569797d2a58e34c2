/- MeetSpans, both. -/
import Derived.Test.YtkgnogdbojefkaaMeet
import Derived.Test.YtkgnogdbojefkaaSpans3
import Derived.WalkLawsBesides
namespace Go.Proofs.Ytkgnogdbojefkaa
open Go.RowKit

def loL (l : List SpanD) : Int := l.foldl (fun m x => max m x.Low) (l.headD ⟨0, 0⟩).Low
def hiL (l : List SpanD) : Int := l.foldl (fun m x => min m x.High) (l.headD ⟨0, 0⟩).High
/-- The part up to k. -/
def loK (l : List SpanD) (k : Nat) : Int := (l.take k).foldl (fun m x => max m x.Low) (l.headD ⟨0, 0⟩).Low
def hiK (l : List SpanD) (k : Nat) : Int := (l.take k).foldl (fun m x => min m x.High) (l.headD ⟨0, 0⟩).High
theorem loK_zero (l : List SpanD) : loK l 0 = (l.headD ⟨0, 0⟩).Low := rfl
theorem hiK_zero (l : List SpanD) : hiK l 0 = (l.headD ⟨0, 0⟩).High := rfl
theorem loK_succ (l : List SpanD) (k : Nat) (h : k < l.length) : loK l (k + 1) = max (loK l k) l[k].Low := by
  unfold loK
  rw [List.take_succ_eq_append_getElem h, List.foldl_append]
  rfl
theorem hiK_succ (l : List SpanD) (k : Nat) (h : k < l.length) : hiK l (k + 1) = min (hiK l k) l[k].High := by
  unfold hiK
  rw [List.take_succ_eq_append_getElem h, List.foldl_append]
  rfl
theorem loK_all (l : List SpanD) : loK l l.length = loL l := by unfold loK; rw [List.take_length]; rfl
theorem hiK_all (l : List SpanD) : hiK l l.length = hiL l := by unfold hiK; rw [List.take_length]; rfl
theorem head_get (l : List SpanD) (h : 0 < l.length) : l.headD ⟨0, 0⟩ = l[0] := by
  cases l with
  | nil => simp at h
  | cons a l => rfl

/-- Whether the spans meet. -/
def meetQ (l : List SpanD) : Bool := inB l.length 1 20 && (!l.any badSpan && decide (loL l ≤ hiL l))

theorem good_low {x : SpanD} (h : badSpan x = false) : x.Low ≤ x.High ∧ -10 ≤ x.Low ∧ x.High ≤ 100010 := by
  unfold badSpan at h
  exact spanB_iff.1 (by simpa using h)

theorem loK_ge {l : List SpanD} (h : l.any badSpan = false) (h0 : 0 < l.length) (k : Nat) : -10 ≤ loK l k ∧ hiK l k ≤ 100010 := by
  have hg : ∀ j (hj : j < l.length), badSpan l[j] = false := fun j hj => by
    have := List.any_eq_false.1 h l[j] (List.getElem_mem hj)
    simpa using this
  induction k with
  | zero =>
    rw [loK_zero, hiK_zero, head_get l h0]
    have := good_low (hg 0 h0)
    omega
  | succ k ih =>
    by_cases hk : k < l.length
    · rw [loK_succ l k hk, hiK_succ l k hk]
      have := good_low (hg k hk)
      omega
    · have e : l.take (k + 1) = l.take k := by rw [List.take_of_length_le (by omega), List.take_of_length_le (by omega)]
      unfold loK hiK at *
      rw [e]
      exact ih

theorem meet_span {l : List SpanD} (h : l.any badSpan = false) (h0 : 0 < l.length) : spanB (loL l) (hiL l) = decide (loL l ≤ hiL l) := by
  have h1 := loK_ge h h0 l.length
  rw [loK_all, hiK_all] at h1
  by_cases hle : loL l ≤ hiL l
  · rw [spanB_iff.2 ⟨hle, h1.1, h1.2⟩]
    simp [hle]
  · have : spanB (loL l) (hiL l) = false := by
      cases hs : spanB (loL l) (hiL l)
      · rfl
      · exact absurd (spanB_iff.1 hs).1 hle
    rw [this]
    simp [hle]

theorem max_if (a b : Int) : max a b = if a < b then b else a := by rw [Int.max_def]; split <;> split <;> omega
theorem min_if (a b : Int) : min a b = if b < a then b else a := by rw [Int.min_def]; split <;> split <;> omega

set_option maxRecDepth 100000 in
set_option maxHeartbeats 1600000 in
/-- impl.MeetSpans -/
theorem meetSpans_any (v : Value) (l : List SpanD) (hl : l.length ≤ 1048576) (w : World) (h : Rd Cod.span w v l) :
    Calls Try.prog 25 #[v] w fun e w' => e = .returned (.tuple #[.agg #[.int .i64 (pickI (meetQ l) (loL l)), .int .i64 (pickI (meetQ l) (hiL l))], .bool (meetQ l)]) ∧ Below w.heap.size w w' := by
  have Hc := Lib.hid (fun (W : World) (r : Rd Cod.span W v l) => meetCf_any v l hl W r)
  have Hd := Lib.hid (within_any (l.length : Int) 1 20)
  have Hq := Lib.hid (show meetQ l = (inB l.length 1 20 && (!l.any badSpan && decide (loL l ≤ hiL l))) from rfl)
  have Hw := Lib.hid (fun (h1 : inB l.length 1 20 = true) => inB_iff.1 h1)
  have Hsp := Lib.hid (fun (a : l.any badSpan = false) (b : 0 < l.length) => meet_span a b)
  have Hr := Lib.hid h
  obtain ⟨p, c, rfl, _, _, r⟩ := h.form
  have R := Lib.hid r
  clear r h
  obtain ⟨n, hn⟩ : ∃ n : Nat, l.length = n := ⟨_, rfl⟩
  have Hn := Lib.hid hn
  rw [hn] at Hd Hq Hw Hc Hr Hsp ⊢
  have hnb : (n : Int) ≤ 1048576 := by omega
  clear hn hl
  generalize inB (n : Int) 1 20 = qi at *
  cases qi
  · have He : Hid (meetQ l = false) := Lib.hid (by rw [Hq.out]; rfl)
    generalize meetQ l = q at *
    obtain rfl := He.out
    go_enter Try.func25, Try.ntmps25
    go_wp2_with (go_at_call 83; refine (Hd.out _).mono ?_; rintro e w1 ⟨rfl, rfl⟩)
    refine bodyPost_ret (v := .tuple #[.agg #[.int .i64 0, .int .i64 0], .bool false]) (by simp [results, Try.results25, go_sem]) rfl ⟨rfl, ?_⟩
    (repeat (first | exact Below.refl _ _ | exact below_new _ _ | refine below_setCell ?_ (by first | (simp; done) | (simp; omega) | omega) | refine below_alloc _ ?_ | refine below_drewN ?_ _ | refine below_after (by assumption) ?_ | assumption))
  generalize l.any badSpan = qa at *
  cases qa
  rotate_left
  · have He : Hid (meetQ l = false) := Lib.hid (by rw [Hq.out]; rfl)
    generalize meetQ l = q at *
    obtain rfl := He.out
    go_enter Try.func25, Try.ntmps25
    go_wp2_with fail
    refine (Hd.out _).mono ?_
    rintro e w1 ⟨rfl, rfl⟩
    go_wp2_with fail
    refine (Hc.out _ (Hr.out.below (by (repeat (first | exact Below.refl _ _ | exact below_new _ _ | refine below_setCell ?_ (by first | (simp; done) | (simp; omega) | omega) | refine below_alloc _ ?_ | refine below_drewN ?_ _ | refine below_after (by assumption) ?_ | assumption))))).mono ?_
    rintro e w1 ⟨rfl, k1⟩
    have hx := bcell k1
    go_wp2
    refine bodyPost_ret (v := .tuple #[.agg #[.int .i64 0, .int .i64 0], .bool false]) (by simp [results, Try.results25, go_sem, hx.1]) rfl ⟨rfl, ?_⟩
    (repeat (first | exact Below.refl _ _ | exact below_new _ _ | refine below_setCell ?_ (by first | (simp; done) | (simp; omega) | omega) | refine below_alloc _ ?_ | refine below_drewN ?_ _ | refine below_after (by assumption) ?_ | assumption))
  · have hn0 : 0 < n := by have := Hw.out rfl; omega
    have hn1 : 0 < (n : Int) := by omega
    have hn20 : (n : Int) ≤ 20 := by have := Hw.out rfl; omega
    have He : Hid (meetQ l = decide (loL l ≤ hiL l)) := Lib.hid (by rw [Hq.out]; simp)
    have Hs2 : Hid (spanB (loL l) (hiL l) = meetQ l) := Lib.hid (by rw [He.out]; exact Hsp.out rfl hn0)
    have Hg := Lib.hid (goodSpan_any (loL l) (hiL l))
    rw [Hs2.out] at Hg
    obtain ⟨g, o, rfl, hg, hc⟩ := R.out (by have := Hn.out; omega)
    have hl0 : 0 < l.length := by have := Hn.out; omega
    have at0 := hc 0 hl0
    have Z0 := Lib.hid (show loK l 0 = l[0].Low from by rw [loK_zero, head_get l hl0])
    have Z1 := Lib.hid (show hiK l 0 = l[0].High from by rw [hiK_zero, head_get l hl0])
    have d0 := (at_span at0).1
    have d1 := (at_span at0).2.1
    rw [show o + 0 * Cod.span.size = o from by omega, ← Z0.out] at d0
    rw [show o + 0 * Cod.span.size = o from by omega, ← Z1.out] at d1
    have Hcc := Lib.hid hc
    clear hc at0 Z0 Z1 hl0
    obtain ⟨q, hq2⟩ : ∃ q, meetQ l = q := ⟨_, rfl⟩
    rw [hq2] at Hg ⊢
    clear hq2 Hs2 He Hq Hw Hsp
    go_enter Try.func25, Try.ntmps25
    go_wp2_with fail
    refine (Hd.out _).mono ?_
    rintro e w1 ⟨rfl, rfl⟩
    go_wp2_with fail
    refine (Hc.out _ (Hr.out.below (by (repeat (first | exact Below.refl _ _ | exact below_new _ _ | refine below_setCell ?_ (by first | (simp; done) | (simp; omega) | omega) | refine below_alloc _ ?_ | refine below_drewN ?_ _ | refine below_after (by assumption) ?_ | assumption))))).mono ?_
    rintro e w1 ⟨rfl, k1⟩
    have hx := bcell k1
    have b1 : Below w.heap.size w w1 := below_after k1 (by (repeat (first | exact Below.refl _ _ | exact below_new _ _ | refine below_setCell ?_ (by first | (simp; done) | (simp; omega) | omega) | refine below_alloc _ ?_ | refine below_drewN ?_ _ | refine below_after (by assumption) ?_ | assumption)))
    have q0 : w.heap.size < w1.heap.size := by have := k1.size; simp at this; omega
    have y0 : w1.cell? ⟨w.heap.size, 0, none⟩ = some (.int .i64 0) := by rw [hx.1 _ _ (by simp)]; simp [go_sem]
    have y1 : w1.cell? ⟨w.heap.size, 1, none⟩ = some (.int .i64 0) := by rw [hx.1 _ _ (by simp)]; simp [go_sem]
    have x0 : w1.frozen? ⟨w.heap.size, 0, none⟩ = false := by rw [hx.2 _ _ (by simp)]; simp [go_sem]
    have x1 : w1.frozen? ⟨w.heap.size, 1, none⟩ = false := by rw [hx.2 _ _ (by simp)]; simp [go_sem]
    have d0' := cell_step b1 d0
    have d1' := cell_step b1 d1
    clear hx k1 d0 d1
    go_wp2
    go_loopw [21] (fun i wr => ∃ k : Nat, i = .int .i64 (k : Int) ∧ k ≤ n ∧ wr.cell? ⟨w1.heap.size, 0, none⟩ = some (.int .i64 (loK l k)) ∧ wr.cell? ⟨w1.heap.size, 1, none⟩ = some (.int .i64 (hiK l k)) ∧
      wr.frozen? ⟨w1.heap.size, 0, none⟩ = false ∧ wr.frozen? ⟨w1.heap.size, 1, none⟩ = false ∧ w1.heap.size < wr.heap.size ∧ Below w1.heap.size w1 wr) (fun i _ => n - (intOf i).toNat)
    case atStart => exact ⟨0, rfl, Nat.zero_le _, by simp [go_sem], by simp [go_sem], by simp [go_sem], by simp [go_sem], by simp, below_new _ _⟩
    case round =>
      obtain ⟨k, rfl, hk, a0, a1, f0, f1, hsz, hb⟩ := hrel
      by_cases hlt : k < n
      · have hlt2 : (k : Int) < (n : Int) := by omega
        have hkl : k < l.length := by have := Hn.out; omega
        have at0 := (Hcc.out k hkl).below hg (b1.trans (hb.mono b1.size))
        have Hs0 := Lib.hid (loK_succ l k hkl)
        have Hs1 := Lib.hid (hiK_succ l k hkl)
        obtain ⟨x, es⟩ : ∃ x, l[k] = x := ⟨_, rfl⟩
        rw [es] at at0 Hs0 Hs1
        clear es hkl d0' d1'
        obtain ⟨d0, d1, z0, z1⟩ := at_span at0
        rw [show o + k * Cod.span.size = o + k * 2 from rfl] at *
        clear at0 z0 z1
        have hgl : g < w1.heap.size := by have := b1.size; omega
        go_wp2
        go_roundw
        case rel =>
          refine ⟨k + 1, by go_num, by omega, ?_, ?_, ?_, ?_, ?_, ?_⟩
          · rw [Hs0.out, max_if, cell_alloc_old (by simp; omega), World.cell?_setCell_other _ _ _ _ (by simp), World.cell?_setCell_same _ _ _ a0]
          · rw [Hs1.out, min_if, cell_alloc_old (by simp; omega), World.cell?_setCell_same _ _ _ (by rw [World.cell?_setCell_other _ _ _ _ (by simp)]; exact a1)]
          · rw [frozen_alloc_old (by simp; omega), World.frozen?_setCell, World.frozen?_setCell]; exact f0
          · rw [frozen_alloc_old (by simp; omega), World.frozen?_setCell, World.frozen?_setCell]; exact f1
          · simp; omega
          · (repeat (first | (with_reducible exact Below.refl _ _) | (with_reducible refine below_setCell ?_ (by first | (simp; done) | (simp; omega) | omega)) | (with_reducible refine below_alloc _ ?_) | (with_reducible refine below_drewN ?_ _) | (with_reducible assumption) | (with_reducible refine below_after (by assumption) ?_)))
        case measure => simp [intOf]; omega
      · have hlt2 : (n : Int) ≤ (k : Int) := by omega
        obtain rfl : k = n := by omega
        have K0 := Lib.hid (show loK l k = loL l from by rw [← Hn.out]; exact loK_all l)
        have K1 := Lib.hid (show hiK l k = hiL l from by rw [← Hn.out]; exact hiK_all l)
        rw [K0.out] at a0
        rw [K1.out] at a1
        clear K0 K1 d0' d1'
        go_wp2_with fail
        refine (Hg.out _).mono ?_
        rintro e w2 ⟨rfl, k2⟩
        have a0' := cell_step k2 a0
        have a1' := cell_step k2 a1
        have yb := hb.cell (p := ⟨w.heap.size, 0, none⟩) q0
        have yc := hb.cell (p := ⟨w.heap.size, 1, none⟩) q0
        have xb := hb.frozen (p := ⟨w.heap.size, 0, none⟩) q0
        have xc := hb.frozen (p := ⟨w.heap.size, 1, none⟩) q0
        have v0 := cell_step k2 (yb.trans y0)
        have v1 := cell_step k2 (yc.trans y1)
        have u0 := frozen_step k2 (yb.trans y0) (xb.trans x0)
        have u1 := frozen_step k2 (yc.trans y1) (xc.trans x1)
        have b2 : Below w.heap.size w w2 := (b1.trans (hb.mono b1.size)).trans (k2.mono (by omega))
        clear y0 y1 x0 x1 yb yc xb xc a0 a1 k2
        cases q
        · go_wp2
          refine bodyPost_ret (v := .tuple #[.agg #[.int .i64 0, .int .i64 0], .bool false]) (by simp [results, Try.results25, go_sem, v0, v1]) rfl ⟨rfl, ?_⟩
          (repeat (first | (with_reducible exact Below.refl _ _) | (with_reducible refine below_setCell ?_ (by first | (simp; done) | (simp; omega) | omega)) | (with_reducible refine below_alloc _ ?_) | (with_reducible refine below_drewN ?_ _) | (with_reducible assumption) | (with_reducible refine below_after (by assumption) ?_)))
        · go_wp2
          refine bodyPost_ret (v := .tuple #[.agg #[.int .i64 (loL l), .int .i64 (hiL l)], .bool true]) (by simp [results, Try.results25, go_sem, v0, v1]) rfl ⟨rfl, ?_⟩
          (repeat (first | (with_reducible exact Below.refl _ _) | (with_reducible refine below_setCell ?_ (by first | (simp; done) | (simp; omega) | omega)) | (with_reducible refine below_alloc _ ?_) | (with_reducible refine below_drewN ?_ _) | (with_reducible assumption) | (with_reducible refine below_after (by assumption) ?_)))

/-- spec.l1Most -/
theorem l1Most_any (a b : Int) (w : World) : Calls Try.prog 80 #[.int .i64 a, .int .i64 b] w fun e w' => e = .returned (.int .i64 (max a b)) ∧ w = w' := by
  rw [show max a b = if b < a then a else b from by rw [Int.max_def]; split <;> split <;> omega]
  by_cases h : b < a
  all_goals
    go_enter Try.func80, Try.ntmps80
    go_wp2
    go_ret
    exact ⟨ret_int (by first | rfl | (rw [if_pos h]; done) | (rw [if_neg h]; done)), rfl⟩

/-- spec.l1Least -/
theorem l1Least_any (a b : Int) (w : World) : Calls Try.prog 81 #[.int .i64 a, .int .i64 b] w fun e w' => e = .returned (.int .i64 (min a b)) ∧ w = w' := by
  rw [show min a b = if a < b then a else b from by rw [Int.min_def]; split <;> split <;> omega]
  by_cases h : a < b
  all_goals
    go_enter Try.func81, Try.ntmps81
    go_wp2
    go_ret
    exact ⟨ret_int (by first | rfl | (rw [if_pos h]; done) | (rw [if_neg h]; done)), rfl⟩

set_option maxRecDepth 100000 in
set_option maxHeartbeats 1600000 in
/-- spec.MeetSpans -/
theorem meetSpansS_any (v : Value) (l : List SpanD) (hl : l.length ≤ 1048576) (w : World) (h : Rd Cod.span w v l) :
    Calls Try.prog 23 #[v] w fun e w' => e = .returned (.tuple #[.agg #[.int .i64 (pickI (meetQ l) (loL l)), .int .i64 (pickI (meetQ l) (hiL l))], .bool (meetQ l)]) ∧ Below w.heap.size w w' := by
  have Hd := Lib.hid (l1In_any (l.length : Int) 1 20)
  have Hq := Lib.hid (show meetQ l = (inB l.length 1 20 && (!l.any badSpan && decide (loL l ≤ hiL l))) from rfl)
  have Hw := Lib.hid (fun (h1 : inB l.length 1 20 = true) => inB_iff.1 h1)
  obtain ⟨p, c, rfl, _, _, r⟩ := h.form
  have R := Lib.hid r
  clear r h
  obtain ⟨n, hn⟩ : ∃ n : Nat, l.length = n := ⟨_, rfl⟩
  have Hn := Lib.hid hn
  rw [hn] at Hd Hq Hw ⊢
  have hnb : (n : Int) ≤ 1048576 := by omega
  clear hn hl
  generalize inB (n : Int) 1 20 = qi at *
  cases qi
  · have He : Hid (meetQ l = false) := Lib.hid (by rw [Hq.out]; rfl)
    generalize meetQ l = q at *
    obtain rfl := He.out
    go_enter Try.func23, Try.ntmps23
    go_wp2_with (go_at_call 78; refine (Hd.out _).mono ?_; rintro e w1 ⟨rfl, rfl⟩)
    refine bodyPost_ret (v := .tuple #[.agg #[.int .i64 0, .int .i64 0], .bool false]) (by simp [results, Try.results23, go_sem]) rfl ⟨rfl, ?_⟩
    (repeat (first | exact Below.refl _ _ | exact below_new _ _ | refine below_setCell ?_ (by first | (simp; done) | (simp; omega) | omega) | refine below_alloc _ ?_ | refine below_drewN ?_ _ | refine below_after (by assumption) ?_ | assumption))
  have hn0 : 0 < n := by have := Hw.out rfl; omega
  have hn1 : 0 < (n : Int) := by omega
  have hn20 : (n : Int) ≤ 20 := by have := Hw.out rfl; omega
  obtain ⟨g, o, rfl, hg, hc⟩ := R.out (by have := Hn.out; omega)
  have hl0 : 0 < l.length := by have := Hn.out; omega
  have at0 := hc 0 hl0
  have Z0 := Lib.hid (show loK l 0 = l[0].Low from by rw [loK_zero, head_get l hl0])
  have Z1 := Lib.hid (show hiK l 0 = l[0].High from by rw [hiK_zero, head_get l hl0])
  have d0 := (at_span at0).1
  have d1 := (at_span at0).2.1
  rw [show o + 0 * Cod.span.size = o from by omega, ← Z0.out] at d0
  rw [show o + 0 * Cod.span.size = o from by omega, ← Z1.out] at d1
  have Hcc := Lib.hid hc
  clear hc at0 Z0 Z1 hl0
  obtain ⟨q, hq2⟩ : ∃ q, meetQ l = q := ⟨_, rfl⟩
  rw [hq2] at Hq ⊢
  clear hq2 Hw
  go_enter Try.func23, Try.ntmps23
  go_wp2_with fail
  refine (Hd.out _).mono ?_
  rintro e w1 ⟨rfl, rfl⟩
  go_wp2
  go_loopw [17] (fun i wr => ∃ k : Nat, i = .int .i64 (k : Int) ∧ k ≤ n ∧ wr.cell? ⟨w.heap.size + 1, 0, none⟩ = some (.int .i64 (loK l k)) ∧ wr.cell? ⟨w.heap.size + 1, 1, none⟩ = some (.int .i64 (hiK l k)) ∧
    wr.frozen? ⟨w.heap.size + 1, 0, none⟩ = false ∧ wr.frozen? ⟨w.heap.size + 1, 1, none⟩ = false ∧ wr.cell? ⟨w.heap.size, 0, none⟩ = some (.int .i64 0) ∧ wr.cell? ⟨w.heap.size, 1, none⟩ = some (.int .i64 0) ∧
    wr.frozen? ⟨w.heap.size, 0, none⟩ = false ∧ wr.frozen? ⟨w.heap.size, 1, none⟩ = false ∧ Hid (∀ j (h : j < l.length), j < k → badSpan l[j] = false) ∧ w.heap.size + 1 < wr.heap.size ∧ Below w.heap.size w wr) (fun i _ => n - (intOf i).toNat)
  case atStart => exact ⟨0, rfl, Nat.zero_le _, by simp [go_sem], by simp [go_sem], by simp [go_sem], by simp [go_sem], by simp [go_sem], by simp [go_sem], by simp [go_sem], by simp [go_sem], Lib.hid (fun j _ h => by omega), by simp, by (repeat (first | exact Below.refl _ _ | exact below_new _ _ | refine below_setCell ?_ (by first | (simp; done) | (simp; omega) | omega) | refine below_alloc _ ?_ | refine below_drewN ?_ _ | refine below_after (by assumption) ?_ | assumption))⟩
  case round =>
    obtain ⟨k, rfl, hk, a0, a1, f0, f1, v0, v1, u0, u1, Hall, hsz, hb⟩ := hrel
    by_cases hlt : k < n
    · have hlt2 : (k : Int) < (n : Int) := by omega
      have hkl : k < l.length := by have := Hn.out; omega
      have at0 := (Hcc.out k hkl).below hg hb
      have Hs0 := Lib.hid (loK_succ l k hkl)
      have Hs1 := Lib.hid (hiK_succ l k hkl)
      have Hb : Hid (badSpan l[k] = true → l.any badSpan = true) := Lib.hid fun h => List.any_eq_true.2 ⟨l[k], List.getElem_mem hkl, h⟩
      have Hnx : Hid (badSpan l[k] = false → ∀ j (h : j < l.length), j < k + 1 → badSpan l[j] = false) := Lib.hid fun h j hj hjk => by
        by_cases e : j = k
        · subst e; exact h
        · exact Hall.out j hj (by omega)
      obtain ⟨x, es⟩ : ∃ x, l[k] = x := ⟨_, rfl⟩
      rw [es] at at0 Hs0 Hs1 Hb Hnx
      clear es hkl d0 d1
      obtain ⟨d0, d1, z0, z1⟩ := at_span at0
      rw [show o + k * Cod.span.size = o + k * 2 from rfl] at *
      clear at0 z0 z1
      have Hg := Lib.hid (l2Span_any x.Low x.High)
      have hbs : spanB x.Low x.High = !badSpan x := by unfold badSpan; simp
      rw [hbs] at Hg
      clear hbs
      generalize badSpan x = bb at *
      have H0 := Lib.hid (l1Most_any (loK l k) x.Low)
      have H1 := Lib.hid (l1Least_any (hiK l k) x.High)
      rw [← Hs0.out] at H0
      rw [← Hs1.out] at H1
      cases bb
      · have Hn2 := Lib.hid (Hnx.out (by first | rfl | trivial))
        clear Hnx Hb Hs0 Hs1
        go_wp2_with fail
        refine (Hg.out _).mono ?_
        rintro e w2 ⟨rfl, k2⟩
        have hx := bcell k2
        have q2 : wr.heap.size < w2.heap.size := by have := k2.size; simp at this; omega
        have a0' : w2.cell? ⟨w.heap.size + 1, 0, none⟩ = some (.int .i64 (loK l k)) := by rw [hx.1 _ _ (by simp; omega), cell_alloc_old (by omega)]; exact a0
        have a1' : w2.cell? ⟨w.heap.size + 1, 1, none⟩ = some (.int .i64 (hiK l k)) := by rw [hx.1 _ _ (by simp; omega), cell_alloc_old (by omega)]; exact a1
        have f0' : w2.frozen? ⟨w.heap.size + 1, 0, none⟩ = false := by rw [hx.2 _ _ (by simp; omega), frozen_alloc_old (by omega)]; exact f0
        have f1' : w2.frozen? ⟨w.heap.size + 1, 1, none⟩ = false := by rw [hx.2 _ _ (by simp; omega), frozen_alloc_old (by omega)]; exact f1
        have v0' : w2.cell? ⟨w.heap.size, 0, none⟩ = some (.int .i64 0) := by rw [hx.1 _ _ (by simp; omega), cell_alloc_old (by omega)]; exact v0
        have v1' : w2.cell? ⟨w.heap.size, 1, none⟩ = some (.int .i64 0) := by rw [hx.1 _ _ (by simp; omega), cell_alloc_old (by omega)]; exact v1
        have u0' : w2.frozen? ⟨w.heap.size, 0, none⟩ = false := by rw [hx.2 _ _ (by simp; omega), frozen_alloc_old (by omega)]; exact u0
        have u1' : w2.frozen? ⟨w.heap.size, 1, none⟩ = false := by rw [hx.2 _ _ (by simp; omega), frozen_alloc_old (by omega)]; exact u1
        have e0 : w2.cell? ⟨wr.heap.size, 0, none⟩ = some (.int .i64 x.Low) := by rw [hx.1 _ _ (by simp)]; simp [go_sem]
        have e1 : w2.cell? ⟨wr.heap.size, 1, none⟩ = some (.int .i64 x.High) := by rw [hx.1 _ _ (by simp)]; simp [go_sem]
        have b2 : Below w.heap.size w w2 := below_after k2 (by (repeat (first | exact Below.refl _ _ | exact below_new _ _ | refine below_setCell ?_ (by first | (simp; done) | (simp; omega) | omega) | refine below_alloc _ ?_ | refine below_drewN ?_ _ | refine below_after (by assumption) ?_ | assumption)))
        clear hx k2 a0 a1 f0 f1 v0 v1 u0 u1 d0 d1
        have hne : wr.heap.size ≠ w.heap.size + 1 := by omega
        go_wp2_with fail
        refine (H0.out _).mono ?_
        rintro e w3 ⟨rfl, rfl⟩
        go_wp2_with fail
        refine (H1.out _).mono ?_
        rintro e w3 ⟨rfl, rfl⟩
        go_wp2
        go_roundw
        case rel =>
          refine ⟨k + 1, by go_num, by omega, ?_, ?_, ?_, ?_, ?_, ?_, ?_, ?_, Hn2, ?_, ?_⟩
          · rw [World.cell?_setCell_other _ _ _ _ (by simp), World.cell?_setCell_same _ _ _ a0']
          · rw [World.cell?_setCell_same _ _ _ (by rw [World.cell?_setCell_other _ _ _ _ (by simp)]; exact a1')]
          · rw [World.frozen?_setCell, World.frozen?_setCell]; exact f0'
          · rw [World.frozen?_setCell, World.frozen?_setCell]; exact f1'
          · rw [World.cell?_setCell_other _ _ _ _ (by simp), World.cell?_setCell_other _ _ _ _ (by simp)]; exact v0'
          · rw [World.cell?_setCell_other _ _ _ _ (by simp), World.cell?_setCell_other _ _ _ _ (by simp)]; exact v1'
          · rw [World.frozen?_setCell, World.frozen?_setCell]; exact u0'
          · rw [World.frozen?_setCell, World.frozen?_setCell]; exact u1'
          · simp; omega
          · (repeat (first | (with_reducible exact Below.refl _ _) | (with_reducible refine below_setCell ?_ (by first | (simp; done) | (simp; omega) | omega)) | (with_reducible refine below_alloc _ ?_) | (with_reducible refine below_drewN ?_ _) | (with_reducible assumption) | (with_reducible refine below_after (by assumption) ?_)))
        case measure => simp [intOf]; omega
      · have Hqq : Hid (q = false) := Lib.hid (by rw [Hq.out, Hb.out (by first | rfl | trivial)]; rfl)
        clear Hnx Hb Hs0 Hs1
        go_wp2_with fail
        refine (Hg.out _).mono ?_
        rintro e w2 ⟨rfl, k2⟩
        have hx := bcell k2
        have v0' : w2.cell? ⟨w.heap.size, 0, none⟩ = some (.int .i64 0) := by rw [hx.1 _ _ (by simp; omega), cell_alloc_old (by omega)]; exact v0
        have v1' : w2.cell? ⟨w.heap.size, 1, none⟩ = some (.int .i64 0) := by rw [hx.1 _ _ (by simp; omega), cell_alloc_old (by omega)]; exact v1
        have u0' : w2.frozen? ⟨w.heap.size, 0, none⟩ = false := by rw [hx.2 _ _ (by simp; omega), frozen_alloc_old (by omega)]; exact u0
        have u1' : w2.frozen? ⟨w.heap.size, 1, none⟩ = false := by rw [hx.2 _ _ (by simp; omega), frozen_alloc_old (by omega)]; exact u1
        have b2 : Below w.heap.size w w2 := below_after k2 (by (repeat (first | exact Below.refl _ _ | exact below_new _ _ | refine below_setCell ?_ (by first | (simp; done) | (simp; omega) | omega) | refine below_alloc _ ?_ | refine below_drewN ?_ _ | refine below_after (by assumption) ?_ | assumption)))
        clear hx k2 a0 a1 f0 f1 v0 v1 u0 u1 d0 d1
        go_wp2
        refine bodyPost_ret (v := .tuple #[.agg #[.int .i64 0, .int .i64 0], .bool false]) (by simp [results, Try.results23, go_sem, v0', v1']) rfl ⟨by rw [Hqq.out]; rfl, ?_⟩
        (repeat (first | (with_reducible exact Below.refl _ _) | (with_reducible refine below_setCell ?_ (by first | (simp; done) | (simp; omega) | omega)) | (with_reducible refine below_alloc _ ?_) | (with_reducible refine below_drewN ?_ _) | (with_reducible assumption) | (with_reducible refine below_after (by assumption) ?_)))
    · have hlt2 : (n : Int) ≤ (k : Int) := by omega
      obtain rfl : k = n := by omega
      have K0 := Lib.hid (show loK l k = loL l from by rw [← Hn.out]; exact loK_all l)
      have K1 := Lib.hid (show hiK l k = hiL l from by rw [← Hn.out]; exact hiK_all l)
      have Hany : Hid (l.any badSpan = false) := Lib.hid (List.any_eq_false.2 fun x hx => by
        obtain ⟨j, hj, rfl⟩ := List.getElem_of_mem hx
        rw [Hall.out j hj (by have := Hn.out; omega)]
        simp)
      rw [K0.out] at a0
      rw [K1.out] at a1
      clear K0 K1 d0 d1
      by_cases hle : loL l ≤ hiL l
      · have Hqq : Hid (q = true) := Lib.hid (by rw [Hq.out, Hany.out]; simp [hle])
        go_wp2
        refine bodyPost_ret (v := .tuple #[.agg #[.int .i64 (loL l), .int .i64 (hiL l)], .bool true]) (by simp [results, Try.results23, go_sem, v0, v1]) rfl ⟨by rw [Hqq.out]; rfl, ?_⟩
        (repeat (first | (with_reducible exact Below.refl _ _) | (with_reducible refine below_setCell ?_ (by first | (simp; done) | (simp; omega) | omega)) | (with_reducible refine below_alloc _ ?_) | (with_reducible refine below_drewN ?_ _) | (with_reducible assumption) | (with_reducible refine below_after (by assumption) ?_)))
      · have Hqq : Hid (q = false) := Lib.hid (by rw [Hq.out, Hany.out]; simp; omega)
        have hgt : hiL l < loL l := by omega
        clear hle
        go_wp2
        refine bodyPost_ret (v := .tuple #[.agg #[.int .i64 0, .int .i64 0], .bool false]) (by simp [results, Try.results23, go_sem, v0, v1]) rfl ⟨by rw [Hqq.out]; rfl, ?_⟩
        (repeat (first | (with_reducible exact Below.refl _ _) | (with_reducible refine below_setCell ?_ (by first | (simp; done) | (simp; omega) | omega)) | (with_reducible refine below_alloc _ ?_) | (with_reducible refine below_drewN ?_ _) | (with_reducible assumption) | (with_reducible refine below_after (by assumption) ?_)))

end Go.Proofs.Ytkgnogdbojefkaa
