/- One cell: good or not, both. -/
import Derived.Test.YtibgpjkpfakgiaaRising
import Derived.Test.YtibgpjkpfakgiaaData
import Derived.IntWalk
namespace Go.Proofs.Ytibgpjkpfakgiaa
open Go.RowKit

/-- impl.isTime -/
theorem isTime_any (n : Int) (w : World) : Calls Try.prog 62 #[.int .i64 n] w fun e w' => e = .returned (.bool (inB n 1 100000)) ∧ w = w' := by
  go_enter Try.func62, Try.ntmps62
  go_wp2_with (go_at_call 91; refine (within_any _ _ _ _).mono ?_; rintro e w1 ⟨rfl, rfl⟩)
  go_ret
  exact ⟨rfl, rfl⟩

/-- spec.l3Time -/
theorem l3Time_any (n : Int) (w : World) : Calls Try.prog 58 #[.int .i64 n] w fun e w' => e = .returned (.bool (inB n 1 100000)) ∧ w = w' := by
  go_enter Try.func58, Try.ntmps58
  go_wp2_with (go_at_call 88; refine (l1In_any _ _ _ _).mono ?_; rintro e w1 ⟨rfl, rfl⟩)
  go_ret
  exact ⟨rfl, rfl⟩

/-- Version j is good and behind the one ahead of it. -/
def VerAt (l : List VerD) (j : Nat) : Prop := ∀ h : j < l.length, inB l[j].Time 1 100000 = true ∧ storedB l[j].Val l[j].Gone = true ∧ ∀ m (hm : m + 1 = j), (l[m]'(by omega)).Time < l[j].Time
/-- Version j is behind the one ahead of it. -/
def OrdAt (l : List VerD) (j : Nat) : Prop := ∀ h : j < l.length, ∀ m (hm : m + 1 = j), (l[m]'(by omega)).Time < l[j].Time
def VerKAt (key : ByteArray) (l : List VerD) (j : Nat) : Prop := ∀ _ : j < l.length, VerAt l j ∧ keyB key = true
def GoodV (l : List VerD) : Prop := inB l.length 1 16 = true ∧ ∀ j, j < l.length → VerAt l j

set_option maxRecDepth 100000 in
set_option maxHeartbeats 3200000 in
/-- impl.isCell -/
theorem isCell_any (x : CellD) (w : World) (u : Value) (r : Rd Cod.ver w u x.Vers) (hvl : x.Vers.length ≤ 1048576) :
    Calls Try.prog 110 #[.agg #[.string x.Key, u]] w fun e w' => e = .returned (.bool (pB (GoodV x.Vers))) ∧ Below w.heap.size w w' := by
  obtain ⟨xKey, xVers⟩ := x
  simp only at *
  obtain ⟨p, c, rfl, _, _, r⟩ := r.form
  have R := Lib.hid r
  clear r
  obtain ⟨n, hn⟩ : ∃ n : Nat, xVers.length = n := ⟨_, rfl⟩
  have Hn0 := Lib.hid hn
  rw [hn]
  have hnb : (n : Int) ≤ 1048576 := by omega
  clear hn hvl
  go_enter Try.func110, Try.ntmps110
  go_wp2
  go_loopw [8] (fun i wr => ∃ k : Nat, i = .int .i64 (k : Int) ∧ k ≤ n ∧ Hid (∀ j, j < k → VerAt xVers j) ∧ wr.cell? ⟨w.heap.size, 0, none⟩ = some (.string xKey) ∧ wr.cell? ⟨w.heap.size, 1, none⟩ = some (.slice p n c) ∧ w.heap.size < wr.heap.size ∧ Below (w.heap.size + 1) (w.alloc (.cells #[.string xKey, .slice p n c] 85)) wr) (fun i _ => n - (intOf i).toNat)
  case atStart => exact ⟨0, rfl, Nat.zero_le _, Lib.hid (fun j h => by omega), by simp [go_sem], by simp [go_sem], by simp, Below.refl _ _⟩
  case round =>
    obtain ⟨k, rfl, hk, Hall, y0, y1, hbx, hb⟩ := hrel
    have hbx' : w.heap.size < wr.heap.size + 1 := by omega
    by_cases hlt : k < n
    · have hlt2 : (k : Int) < (n : Int) := by omega
      have hkl : k < xVers.length := by have := Hn0.out; omega
      obtain ⟨g, o, rfl, hg, hc⟩ := R.out (by have := Hn0.out; omega)
      have bw : Below w.heap.size w wr := (below_new w _).trans (hb.mono (by omega))
      have at0 := (hc k hkl).below hg bw
      have hgl : g < wr.heap.size := by omega
      have hgl' : g < wr.heap.size + 1 := by omega
      have Hb0 : Hid (inB xVers[k].Time 1 100000 = false → pB (GoodV xVers) = false) := Lib.hid fun h => pB_false fun hr => by
        have := (hr.2 k hkl hkl).1
        rw [h] at this
        cases this
      have Hb1 : Hid ((storedB xVers[k].Val xVers[k].Gone) = false → pB (GoodV xVers) = false) := Lib.hid fun h => pB_false fun hr => by
        have h1 := (hr.2 k hkl hkl).2.1
        rw [h1] at h
        cases h
      have Hn : Hid (inB xVers[k].Time 1 100000 = true → (storedB xVers[k].Val xVers[k].Gone) = true → OrdAt xVers k → ∀ j, j < k + 1 → VerAt xVers j) := Lib.hid fun h1 h2 h3 j hj => by
        by_cases e : j = k
        · subst e
          exact fun h' => ⟨h1, h2, h3 h'⟩
        · exact Hall.out j (by omega)
      by_cases hk0 : k = 0
      · have hd : decide (0 < k) = false := by simp; omega
        have Ho : Hid (OrdAt xVers k) := Lib.hid fun _ m hm => by omega
        obtain ⟨y, es⟩ : ∃ y, xVers[k] = y := ⟨_, rfl⟩
        rw [es] at at0 Hb0 Hb1 Hn
        obtain ⟨d0, d1, d2, _, z1⟩ := at_ver at0
        rw [show o + k * Cod.ver.size = o + k * 3 from rfl] at *
        have Hc0 := Lib.hid (isTime_any y.Time)
        have Hc1 := Lib.hid (isStored_any y.Val y.Gone z1)
        clear hc es hkl at0 z1 hk0
        generalize inB y.Time 1 100000 = c0 at *
        generalize (storedB y.Val y.Gone) = c1 at *
        cases c0
        · have Hq := Lib.hid (Hb0.out (by first | rfl | trivial))
          go_wp2_with fail
          have hx2 := fun (u : World) (b o : Nat) (h : b < wr.heap.size + 1) => ext_cell (wr.alloc (.cells #[.int .i64 y.Time, .string y.Val, .bool y.Gone] 125)) u b o h
          refine wp_region_ext (by kernel_rfl) (by kernel_rfl) (wr.heap.size + 1) ?_
          repeat (any_goals (go_big_quiet_step ((first | (go_at_call 62; exact calls_ext_same (Hc0.out _)) | (go_at_call 100; exact calls_ext_same (Hc1.out _))))))
          refine wpQuiet_nil ?_
          intro w2 hb2
          clear hx2
          go_wp2
          go_ret
          exact ⟨ret_bool (by rw [Hq.out]), (below_alloc _ bw).trans (hb2.mono (by omega))⟩
        cases c1
        · have Hq := Lib.hid (Hb1.out (by first | rfl | trivial))
          go_wp2_with fail
          have hx2 := fun (u : World) (b o : Nat) (h : b < wr.heap.size + 1) => ext_cell (wr.alloc (.cells #[.int .i64 y.Time, .string y.Val, .bool y.Gone] 125)) u b o h
          refine wp_region_ext (by kernel_rfl) (by kernel_rfl) (wr.heap.size + 1) ?_
          repeat (any_goals (go_big_quiet_step ((first | (go_at_call 62; exact calls_ext_same (Hc0.out _)) | (go_at_call 100; exact calls_ext_same (Hc1.out _))))))
          refine wpQuiet_nil ?_
          intro w2 hb2
          clear hx2
          go_wp2
          go_ret
          exact ⟨ret_bool (by rw [Hq.out]), (below_alloc _ bw).trans (hb2.mono (by omega))⟩
        have Hq := Lib.hid (Hn.out (by first | rfl | trivial) (by first | rfl | trivial) Ho.out)
        go_wp2_with fail
        have hx2 := fun (u : World) (b o : Nat) (h : b < wr.heap.size + 1) => ext_cell (wr.alloc (.cells #[.int .i64 y.Time, .string y.Val, .bool y.Gone] 125)) u b o h
        refine wp_region_ext (by kernel_rfl) (by kernel_rfl) (wr.heap.size + 1) ?_
        repeat (any_goals (go_big_quiet_step ((first | (go_at_call 62; exact calls_ext_same (Hc0.out _)) | (go_at_call 100; exact calls_ext_same (Hc1.out _))))))
        refine wpQuiet_nil ?_
        intro w2 hb2
        clear hx2
        go_wp2
        have ye0 := (hb2.cell (p := ⟨w.heap.size, 0, none⟩) (by omega)).trans ((cell_alloc_old (by omega)).trans y0)
        have ye1 := (hb2.cell (p := ⟨w.heap.size, 1, none⟩) (by omega)).trans ((cell_alloc_old (by omega)).trans y1)
        go_roundw
        case rel => exact ⟨k + 1, by go_num, by omega, Hq, ye0, ye1, Nat.lt_of_lt_of_le (show w.heap.size < wr.heap.size + 1 by omega) (by have := hb2.size; simp at this; omega), (hb.trans ((below_new wr _).mono (by omega))).trans (hb2.mono (by omega))⟩
        case measure => simp [intOf]; omega
      · obtain ⟨m, hm⟩ : ∃ m, m + 1 = k := ⟨k - 1, by omega⟩
        have Hm := Lib.hid hm
        have hml : m < xVers.length := by omega
        have at1 := (hc m hml).below hg bw
        have Hbo : Hid (¬ (xVers[m].Time < xVers[k].Time) → pB (GoodV xVers) = false) := Lib.hid fun h => pB_false fun hr => h ((hr.2 k hkl hkl).2.2 m hm)
        have Hlt : Hid (xVers[m].Time < xVers[k].Time → OrdAt xVers k) := Lib.hid fun h _ m' hm' => by
          obtain rfl : m' = m := by omega
          exact h
        have hd : decide (0 < k) = true := by simp; omega
        have hkm : IntKind.i64.wrap ((k : Int) - 1) = (m : Int) := by rw [IntWalk.i64_in _ (by omega)]; omega
        have hmn : (m : Int) < (n : Int) := by omega
        have hm0 : (0 : Int) ≤ (m : Int) := by omega
        obtain ⟨y, es⟩ : ∃ y, xVers[k] = y := ⟨_, rfl⟩
        obtain ⟨z, et⟩ : ∃ z, xVers[m] = z := ⟨_, rfl⟩
        rw [es] at at0 Hb0 Hb1 Hbo Hn Hlt
        rw [et] at at1 Hbo Hlt
        obtain ⟨d0, d1, d2, _, z1⟩ := at_ver at0
        have e0 := (at_ver at1).1
        rw [show o + k * Cod.ver.size = o + k * 3 from rfl] at *
        rw [show o + m * Cod.ver.size = o + m * 3 from rfl] at *
        have Hc0 := Lib.hid (isTime_any y.Time)
        have Hc1 := Lib.hid (isStored_any y.Val y.Gone z1)
        clear hc es et at0 at1 z1 hk0 hm hml hkl
        generalize inB y.Time 1 100000 = c0 at *
        generalize (storedB y.Val y.Gone) = c1 at *
        cases c0
        · have Hq := Lib.hid (Hb0.out (by first | rfl | trivial))
          go_wp2_with fail
          have hx2 := fun (u : World) (b o : Nat) (h : b < wr.heap.size + 1) => ext_cell (wr.alloc (.cells #[.int .i64 y.Time, .string y.Val, .bool y.Gone] 125)) u b o h
          refine wp_region_ext (by kernel_rfl) (by kernel_rfl) (wr.heap.size + 1) ?_
          repeat (any_goals (go_big_quiet_step ((first | (go_at_call 62; exact calls_ext_same (Hc0.out _)) | (go_at_call 100; exact calls_ext_same (Hc1.out _))))))
          refine wpQuiet_nil ?_
          intro w2 hb2
          clear hx2 hkm
          go_wp2
          go_ret
          exact ⟨ret_bool (by rw [Hq.out]), (below_alloc _ bw).trans (hb2.mono (by omega))⟩
        cases c1
        · have Hq := Lib.hid (Hb1.out (by first | rfl | trivial))
          go_wp2_with fail
          have hx2 := fun (u : World) (b o : Nat) (h : b < wr.heap.size + 1) => ext_cell (wr.alloc (.cells #[.int .i64 y.Time, .string y.Val, .bool y.Gone] 125)) u b o h
          refine wp_region_ext (by kernel_rfl) (by kernel_rfl) (wr.heap.size + 1) ?_
          repeat (any_goals (go_big_quiet_step ((first | (go_at_call 62; exact calls_ext_same (Hc0.out _)) | (go_at_call 100; exact calls_ext_same (Hc1.out _))))))
          refine wpQuiet_nil ?_
          intro w2 hb2
          clear hx2 hkm
          go_wp2
          go_ret
          exact ⟨ret_bool (by rw [Hq.out]), (below_alloc _ bw).trans (hb2.mono (by omega))⟩
        by_cases hord : z.Time < y.Time
        · have Hq := Lib.hid (Hn.out (by first | rfl | trivial) (by first | rfl | trivial) (Hlt.out hord))
          have hle : decide (y.Time ≤ z.Time) = false := by simp; omega
          go_wp2_with fail
          have hx2 := fun (u : World) (b o : Nat) (h : b < wr.heap.size + 1) => ext_cell (wr.alloc (.cells #[.int .i64 y.Time, .string y.Val, .bool y.Gone] 125)) u b o h
          refine wp_region_ext (by kernel_rfl) (by kernel_rfl) (wr.heap.size + 1) ?_
          repeat (any_goals (go_big_quiet_step ((first | (go_at_call 62; exact calls_ext_same (Hc0.out _)) | (go_at_call 100; exact calls_ext_same (Hc1.out _))))))
          refine wpQuiet_nil ?_
          intro w2 hb2
          clear hx2 hkm
          go_wp2
          have ye0 := (hb2.cell (p := ⟨w.heap.size, 0, none⟩) (by omega)).trans ((cell_alloc_old (by omega)).trans y0)
          have ye1 := (hb2.cell (p := ⟨w.heap.size, 1, none⟩) (by omega)).trans ((cell_alloc_old (by omega)).trans y1)
          go_roundw
          case rel => exact ⟨k + 1, by go_num, by omega, Hq, ye0, ye1, Nat.lt_of_lt_of_le (show w.heap.size < wr.heap.size + 1 by omega) (by have := hb2.size; simp at this; omega), (hb.trans ((below_new wr _).mono (by omega))).trans (hb2.mono (by omega))⟩
          case measure => simp [intOf]; omega
        · have Hq := Lib.hid (Hbo.out hord)
          have hle : decide (y.Time ≤ z.Time) = true := by simp; omega
          go_wp2_with fail
          have hx2 := fun (u : World) (b o : Nat) (h : b < wr.heap.size + 1) => ext_cell (wr.alloc (.cells #[.int .i64 y.Time, .string y.Val, .bool y.Gone] 125)) u b o h
          refine wp_region_ext (by kernel_rfl) (by kernel_rfl) (wr.heap.size + 1) ?_
          repeat (any_goals (go_big_quiet_step ((first | (go_at_call 62; exact calls_ext_same (Hc0.out _)) | (go_at_call 100; exact calls_ext_same (Hc1.out _))))))
          refine wpQuiet_nil ?_
          intro w2 hb2
          clear hx2 hkm
          go_wp2
          go_ret
          exact ⟨ret_bool (by rw [Hq.out]), (below_alloc _ bw).trans (hb2.mono (by omega))⟩
    · have hlt2 : (n : Int) ≤ (k : Int) := by omega
      obtain rfl : k = n := by omega
      have Hd := Lib.hid (within_any (k : Int) 1 16)
      have Hq : Hid (pB (GoodV xVers) = inB (k : Int) 1 16) := Lib.hid (pB_eq (by
        rw [← Hn0.out]
        exact ⟨fun h => h.1, fun h => ⟨h, fun j hj => Hall.out j (by have := Hn0.out; omega)⟩⟩))
      generalize inB (k : Int) 1 16 = q at *
      go_wp2_with fail
      refine (Hd.out _).mono ?_
      rintro e w2 ⟨rfl, rfl⟩
      go_wp2
      go_ret
      exact ⟨ret_bool (by rw [Hq.out]), (below_new w _).trans (hb.mono (by omega))⟩

set_option maxRecDepth 100000 in
set_option maxHeartbeats 3200000 in
/-- spec.l3Cell -/
theorem l3Cell_any (x : CellD) (hkx : x.Key.size ≤ maxLen) (w : World) (u : Value) (r : Rd Cod.ver w u x.Vers) (hvl : x.Vers.length ≤ 1048576) :
    Calls Try.prog 106 #[.agg #[.string x.Key, u]] w fun e w' => e = .returned (.bool (pB (GoodV x.Vers ∧ keyB x.Key = true))) ∧ Below w.heap.size w w' := by
  obtain ⟨xKey, xVers⟩ := x
  simp only at *
  obtain ⟨p, c, rfl, _, _, r⟩ := r.form
  have R := Lib.hid r
  clear r
  obtain ⟨n, hn⟩ : ∃ n : Nat, xVers.length = n := ⟨_, rfl⟩
  have Hn0 := Lib.hid hn
  rw [hn]
  have hnb : (n : Int) ≤ 1048576 := by omega
  clear hn hvl
  have Hkx := Lib.hid hkx
  clear hkx
  go_enter Try.func106, Try.ntmps106
  go_wp2
  go_loopw [8] (fun i wr => ∃ k : Nat, i = .int .i64 (k : Int) ∧ k ≤ n ∧ Hid (∀ j, j < k → VerKAt xKey xVers j) ∧ wr.cell? ⟨w.heap.size, 0, none⟩ = some (.string xKey) ∧ wr.cell? ⟨w.heap.size, 1, none⟩ = some (.slice p n c) ∧ w.heap.size < wr.heap.size ∧ Below (w.heap.size + 1) (w.alloc (.cells #[.string xKey, .slice p n c] 85)) wr) (fun i _ => n - (intOf i).toNat)
  case atStart => exact ⟨0, rfl, Nat.zero_le _, Lib.hid (fun j h => by omega), by simp [go_sem], by simp [go_sem], by simp, Below.refl _ _⟩
  case round =>
    obtain ⟨k, rfl, hk, Hall, y0, y1, hbx, hb⟩ := hrel
    have hbx' : w.heap.size < wr.heap.size + 1 := by omega
    by_cases hlt : k < n
    · have hlt2 : (k : Int) < (n : Int) := by omega
      have hkl : k < xVers.length := by have := Hn0.out; omega
      obtain ⟨g, o, rfl, hg, hc⟩ := R.out (by have := Hn0.out; omega)
      have bw : Below w.heap.size w wr := (below_new w _).trans (hb.mono (by omega))
      have at0 := (hc k hkl).below hg bw
      have hgl : g < wr.heap.size := by omega
      have hgl' : g < wr.heap.size + 1 := by omega
      have Hb0 : Hid (inB xVers[k].Time 1 100000 = false → pB (GoodV xVers ∧ keyB xKey = true) = false) := Lib.hid fun h => pB_false fun hr => by
        have := (hr.1.2 k hkl hkl).1
        rw [h] at this
        cases this
      have Hb1 : Hid ((keyB xKey && storedB xVers[k].Val xVers[k].Gone) = false → pB (GoodV xVers ∧ keyB xKey = true) = false) := Lib.hid fun h => pB_false fun hr => by
        have h1 := (hr.1.2 k hkl hkl).2.1
        rw [hr.2, h1] at h
        cases h
      have Hn : Hid (inB xVers[k].Time 1 100000 = true → (keyB xKey && storedB xVers[k].Val xVers[k].Gone) = true → OrdAt xVers k → ∀ j, j < k + 1 → VerKAt xKey xVers j) := Lib.hid fun h1 h2 h3 j hj => by
        by_cases e : j = k
        · subst e
          exact fun h => ⟨fun h' => ⟨h1, (by rw [Bool.and_eq_true] at h2; exact h2.2), h3 h'⟩, (by rw [Bool.and_eq_true] at h2; exact h2.1)⟩
        · exact Hall.out j (by omega)
      by_cases hk0 : k = 0
      · have hd : decide (0 < k) = false := by simp; omega
        have Ho : Hid (OrdAt xVers k) := Lib.hid fun _ m hm => by omega
        obtain ⟨y, es⟩ : ∃ y, xVers[k] = y := ⟨_, rfl⟩
        rw [es] at at0 Hb0 Hb1 Hn
        obtain ⟨d0, d1, d2, _, z1⟩ := at_ver at0
        rw [show o + k * Cod.ver.size = o + k * 3 from rfl] at *
        have Hc0 := Lib.hid (l3Time_any y.Time)
        have Hc1 := Lib.hid (l3Write_any xKey y.Val y.Gone Hkx.out z1)
        clear hc es hkl at0 z1 hk0
        generalize inB y.Time 1 100000 = c0 at *
        generalize (keyB xKey && storedB y.Val y.Gone) = c1 at *
        cases c0
        · have Hq := Lib.hid (Hb0.out (by first | rfl | trivial))
          go_wp2_with fail
          have hx2 := fun (u : World) (b o : Nat) (h : b < wr.heap.size + 1) => ext_cell (wr.alloc (.cells #[.int .i64 y.Time, .string y.Val, .bool y.Gone] 125)) u b o h
          refine wp_region_ext (by kernel_rfl) (by kernel_rfl) (wr.heap.size + 1) ?_
          repeat (any_goals (go_big_quiet_step ((first | (go_at_call 58; exact calls_ext_same (Hc0.out _)) | (go_at_call 95; exact calls_ext (by first | (simp; done) | omega | (simp; omega)) (Hc1.out _))))))
          refine wpQuiet_nil ?_
          intro w2 hb2
          clear hx2
          go_wp2
          go_ret
          exact ⟨ret_bool (by rw [Hq.out]), (below_alloc _ bw).trans (hb2.mono (by omega))⟩
        cases c1
        · have Hq := Lib.hid (Hb1.out (by first | rfl | trivial))
          go_wp2_with fail
          have hx2 := fun (u : World) (b o : Nat) (h : b < wr.heap.size + 1) => ext_cell (wr.alloc (.cells #[.int .i64 y.Time, .string y.Val, .bool y.Gone] 125)) u b o h
          refine wp_region_ext (by kernel_rfl) (by kernel_rfl) (wr.heap.size + 1) ?_
          repeat (any_goals (go_big_quiet_step ((first | (go_at_call 58; exact calls_ext_same (Hc0.out _)) | (go_at_call 95; exact calls_ext (by first | (simp; done) | omega | (simp; omega)) (Hc1.out _))))))
          refine wpQuiet_nil ?_
          intro w2 hb2
          clear hx2
          go_wp2
          go_ret
          exact ⟨ret_bool (by rw [Hq.out]), (below_alloc _ bw).trans (hb2.mono (by omega))⟩
        have Hq := Lib.hid (Hn.out (by first | rfl | trivial) (by first | rfl | trivial) Ho.out)
        go_wp2_with fail
        have hx2 := fun (u : World) (b o : Nat) (h : b < wr.heap.size + 1) => ext_cell (wr.alloc (.cells #[.int .i64 y.Time, .string y.Val, .bool y.Gone] 125)) u b o h
        refine wp_region_ext (by kernel_rfl) (by kernel_rfl) (wr.heap.size + 1) ?_
        repeat (any_goals (go_big_quiet_step ((first | (go_at_call 58; exact calls_ext_same (Hc0.out _)) | (go_at_call 95; exact calls_ext (by first | (simp; done) | omega | (simp; omega)) (Hc1.out _))))))
        refine wpQuiet_nil ?_
        intro w2 hb2
        clear hx2
        go_wp2
        have ye0 := (hb2.cell (p := ⟨w.heap.size, 0, none⟩) (by omega)).trans ((cell_alloc_old (by omega)).trans y0)
        have ye1 := (hb2.cell (p := ⟨w.heap.size, 1, none⟩) (by omega)).trans ((cell_alloc_old (by omega)).trans y1)
        go_roundw
        case rel => exact ⟨k + 1, by go_num, by omega, Hq, ye0, ye1, Nat.lt_of_lt_of_le (show w.heap.size < wr.heap.size + 1 by omega) (by have := hb2.size; simp at this; omega), (hb.trans ((below_new wr _).mono (by omega))).trans (hb2.mono (by omega))⟩
        case measure => simp [intOf]; omega
      · obtain ⟨m, hm⟩ : ∃ m, m + 1 = k := ⟨k - 1, by omega⟩
        have Hm := Lib.hid hm
        have hml : m < xVers.length := by omega
        have at1 := (hc m hml).below hg bw
        have Hbo : Hid (¬ (xVers[m].Time < xVers[k].Time) → pB (GoodV xVers ∧ keyB xKey = true) = false) := Lib.hid fun h => pB_false fun hr => h ((hr.1.2 k hkl hkl).2.2 m hm)
        have Hlt : Hid (xVers[m].Time < xVers[k].Time → OrdAt xVers k) := Lib.hid fun h _ m' hm' => by
          obtain rfl : m' = m := by omega
          exact h
        have hd : decide (0 < k) = true := by simp; omega
        have hkm : IntKind.i64.wrap ((k : Int) - 1) = (m : Int) := by rw [IntWalk.i64_in _ (by omega)]; omega
        have hmn : (m : Int) < (n : Int) := by omega
        have hm0 : (0 : Int) ≤ (m : Int) := by omega
        obtain ⟨y, es⟩ : ∃ y, xVers[k] = y := ⟨_, rfl⟩
        obtain ⟨z, et⟩ : ∃ z, xVers[m] = z := ⟨_, rfl⟩
        rw [es] at at0 Hb0 Hb1 Hbo Hn Hlt
        rw [et] at at1 Hbo Hlt
        obtain ⟨d0, d1, d2, _, z1⟩ := at_ver at0
        have e0 := (at_ver at1).1
        rw [show o + k * Cod.ver.size = o + k * 3 from rfl] at *
        rw [show o + m * Cod.ver.size = o + m * 3 from rfl] at *
        have Hc0 := Lib.hid (l3Time_any y.Time)
        have Hc1 := Lib.hid (l3Write_any xKey y.Val y.Gone Hkx.out z1)
        clear hc es et at0 at1 z1 hk0 hm hml hkl
        generalize inB y.Time 1 100000 = c0 at *
        generalize (keyB xKey && storedB y.Val y.Gone) = c1 at *
        cases c0
        · have Hq := Lib.hid (Hb0.out (by first | rfl | trivial))
          go_wp2_with fail
          have hx2 := fun (u : World) (b o : Nat) (h : b < wr.heap.size + 1) => ext_cell (wr.alloc (.cells #[.int .i64 y.Time, .string y.Val, .bool y.Gone] 125)) u b o h
          refine wp_region_ext (by kernel_rfl) (by kernel_rfl) (wr.heap.size + 1) ?_
          repeat (any_goals (go_big_quiet_step ((first | (go_at_call 58; exact calls_ext_same (Hc0.out _)) | (go_at_call 95; exact calls_ext (by first | (simp; done) | omega | (simp; omega)) (Hc1.out _))))))
          refine wpQuiet_nil ?_
          intro w2 hb2
          clear hx2 hkm
          go_wp2
          go_ret
          exact ⟨ret_bool (by rw [Hq.out]), (below_alloc _ bw).trans (hb2.mono (by omega))⟩
        cases c1
        · have Hq := Lib.hid (Hb1.out (by first | rfl | trivial))
          go_wp2_with fail
          have hx2 := fun (u : World) (b o : Nat) (h : b < wr.heap.size + 1) => ext_cell (wr.alloc (.cells #[.int .i64 y.Time, .string y.Val, .bool y.Gone] 125)) u b o h
          refine wp_region_ext (by kernel_rfl) (by kernel_rfl) (wr.heap.size + 1) ?_
          repeat (any_goals (go_big_quiet_step ((first | (go_at_call 58; exact calls_ext_same (Hc0.out _)) | (go_at_call 95; exact calls_ext (by first | (simp; done) | omega | (simp; omega)) (Hc1.out _))))))
          refine wpQuiet_nil ?_
          intro w2 hb2
          clear hx2 hkm
          go_wp2
          go_ret
          exact ⟨ret_bool (by rw [Hq.out]), (below_alloc _ bw).trans (hb2.mono (by omega))⟩
        by_cases hord : z.Time < y.Time
        · have Hq := Lib.hid (Hn.out (by first | rfl | trivial) (by first | rfl | trivial) (Hlt.out hord))
          have hle : decide (y.Time ≤ z.Time) = false := by simp; omega
          go_wp2_with fail
          have hx2 := fun (u : World) (b o : Nat) (h : b < wr.heap.size + 1) => ext_cell (wr.alloc (.cells #[.int .i64 y.Time, .string y.Val, .bool y.Gone] 125)) u b o h
          refine wp_region_ext (by kernel_rfl) (by kernel_rfl) (wr.heap.size + 1) ?_
          repeat (any_goals (go_big_quiet_step ((first | (go_at_call 58; exact calls_ext_same (Hc0.out _)) | (go_at_call 95; exact calls_ext (by first | (simp; done) | omega | (simp; omega)) (Hc1.out _))))))
          refine wpQuiet_nil ?_
          intro w2 hb2
          clear hx2 hkm
          go_wp2
          have ye0 := (hb2.cell (p := ⟨w.heap.size, 0, none⟩) (by omega)).trans ((cell_alloc_old (by omega)).trans y0)
          have ye1 := (hb2.cell (p := ⟨w.heap.size, 1, none⟩) (by omega)).trans ((cell_alloc_old (by omega)).trans y1)
          go_roundw
          case rel => exact ⟨k + 1, by go_num, by omega, Hq, ye0, ye1, Nat.lt_of_lt_of_le (show w.heap.size < wr.heap.size + 1 by omega) (by have := hb2.size; simp at this; omega), (hb.trans ((below_new wr _).mono (by omega))).trans (hb2.mono (by omega))⟩
          case measure => simp [intOf]; omega
        · have Hq := Lib.hid (Hbo.out hord)
          have hle : decide (y.Time ≤ z.Time) = true := by simp; omega
          go_wp2_with fail
          have hx2 := fun (u : World) (b o : Nat) (h : b < wr.heap.size + 1) => ext_cell (wr.alloc (.cells #[.int .i64 y.Time, .string y.Val, .bool y.Gone] 125)) u b o h
          refine wp_region_ext (by kernel_rfl) (by kernel_rfl) (wr.heap.size + 1) ?_
          repeat (any_goals (go_big_quiet_step ((first | (go_at_call 58; exact calls_ext_same (Hc0.out _)) | (go_at_call 95; exact calls_ext (by first | (simp; done) | omega | (simp; omega)) (Hc1.out _))))))
          refine wpQuiet_nil ?_
          intro w2 hb2
          clear hx2 hkm
          go_wp2
          go_ret
          exact ⟨ret_bool (by rw [Hq.out]), (below_alloc _ bw).trans (hb2.mono (by omega))⟩
    · have hlt2 : (n : Int) ≤ (k : Int) := by omega
      obtain rfl : k = n := by omega
      have Hd := Lib.hid (l1In_any (k : Int) 1 16)
      have He := Lib.hid (l3Key_any xKey Hkx.out)
      have Hq : Hid (pB (GoodV xVers ∧ keyB xKey = true) = (keyB xKey && inB (k : Int) 1 16)) := Lib.hid (pB_eq (by
        rw [← Hn0.out, Bool.and_eq_true]
        exact ⟨fun h => ⟨h.2, h.1.1⟩, fun h => ⟨⟨h.2, fun j hj hj2 => ((Hall.out j (by have := Hn0.out; omega)) hj2).1 hj2⟩, h.1⟩⟩))
      generalize inB (k : Int) 1 16 = q at *
      obtain ⟨q2, hq2⟩ : ∃ q2, keyB xKey = q2 := ⟨_, rfl⟩
      rw [hq2] at He
      have Hq2 := Lib.hid hq2
      clear hq2
      have bw : Below w.heap.size w wr := (below_new w _).trans (hb.mono (by omega))
      cases q2
      · go_wp2_with fail
        refine (He.out _).mono ?_
        rintro e w2 ⟨rfl, k2⟩
        go_wp2
        go_ret
        exact ⟨ret_bool (by rw [Hq.out, Hq2.out]; rfl), below_after k2 bw⟩
      · go_wp2_with fail
        refine (He.out _).mono ?_
        rintro e w2 ⟨rfl, k2⟩
        have ye1 := cell_step k2 y1
        go_wp2_with fail
        refine (Hd.out _).mono ?_
        rintro e w3 ⟨rfl, rfl⟩
        go_wp2
        go_ret
        exact ⟨ret_bool (by rw [Hq.out, Hq2.out]; rfl), below_after k2 bw⟩

end Go.Proofs.Ytibgpjkpfakgiaa
