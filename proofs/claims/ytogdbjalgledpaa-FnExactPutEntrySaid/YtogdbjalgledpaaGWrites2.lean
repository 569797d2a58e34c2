/- GoodWrites, both. -/
import Derived.Test.YtogdbjalgledpaaGWrites
import Derived.IntWalk
namespace Go.Proofs.Ytogdbjalgledpaa
open Go.RowKit

/-- Whether the writes are good. -/
noncomputable def goodWB (l : List WriteD) : Bool := decide (l.length ≤ 24) && (pB (Rising (l.map fun x => x.Key)) && !l.any badStored)

/-- Write k is good and behind the one ahead of it. -/
def WAt (l : List WriteD) (k : Nat) : Prop := ∀ h : k < l.length, (keyB l[k].Key && storedB l[k].Val l[k].Gone) = true ∧ ∀ m (hm : m + 1 = k), ltB (l[m]'(by omega)).Key l[k].Key = true

theorem goodWB_true {l : List WriteD} (h0 : l.length ≤ 24) (h : ∀ k, k < l.length → WAt l k) : goodWB l = true := by
  unfold goodWB
  rw [show decide (l.length ≤ 24) = true from by simpa using h0, pB_true (p := Rising (l.map fun x => x.Key)) ?_, show l.any badStored = false from ?_]
  · rfl
  · rw [List.any_eq_false]
    intro x hx
    obtain ⟨j, hj, rfl⟩ := List.getElem_of_mem hx
    have := (h j hj hj).1
    rw [Bool.and_eq_true] at this
    unfold badStored
    rw [this.2]
    simp
  · intro k hk hk2
    have hkl : k < l.length := by simpa using hk
    have h1 := h k hkl hkl
    rw [Bool.and_eq_true] at h1
    refine ⟨by simpa using h1.1.1, fun m hm => ?_⟩
    simpa using h1.2 m hm

theorem goodWB_at {l : List WriteD} (h : goodWB l = true) : l.length ≤ 24 ∧ ∀ k, k < l.length → WAt l k := by
  unfold goodWB at h
  simp only [Bool.and_eq_true, decide_eq_true_eq, Bool.not_eq_true'] at h
  refine ⟨h.1, fun k hk hk2 => ?_⟩
  have h1 := pB_iff.1 h.2.1 k (by simpa using hk) (by simpa using hk)
  have h2 := List.any_eq_false.1 h.2.2 l[k] (List.getElem_mem hk)
  unfold badStored at h2
  simp only [Bool.not_eq_true', Bool.not_eq_false] at h2
  refine ⟨by rw [Bool.and_eq_true]; exact ⟨by simpa using h1.1, by simpa using h2⟩, fun m hm => ?_⟩
  simpa using h1.2 m hm

theorem goodWB_long {l : List WriteD} (h : ¬ l.length ≤ 24) : goodWB l = false := by
  unfold goodWB
  rw [show decide (l.length ≤ 24) = false from by simpa using h]
  rfl
theorem goodWB_bad {l : List WriteD} {k : Nat} (hk : k < l.length) (h : ¬ WAt l k) : goodWB l = false := by
  cases hg : goodWB l
  · rfl
  · exact absurd ((goodWB_at hg).2 k hk) h

set_option maxRecDepth 100000 in
set_option maxHeartbeats 800000 in
/-- impl.GoodWrites -/
theorem goodWrites_any (v : Value) (l : List WriteD) (hl : l.length ≤ 1048576) (w : World) (h : Rd Cod.write w v l) :
    Calls Try.prog 100 #[v] w fun e w' => e = .returned (.bool (goodWB l)) ∧ Below w.heap.size w w' := by
  have Hk := Lib.hid (writeKeys_any v l hl w h)
  have Hr := Lib.hid (fun (u : Value) (W : World) (r : Rd Cod.str W u (l.map fun x => x.Key)) => areRising_any u _ (by rw [List.length_map]; exact hl) W r)
  have Hc := Lib.hid (fun (W : World) (r : Rd Cod.write W v l) => gwCf_any v l hl W r)
  have Hh := Lib.hid h
  obtain ⟨p, c, rfl, _, _, _⟩ := h.form
  clear h
  unfold goodWB
  generalize pB (Rising (l.map fun x => x.Key)) = q1 at *
  generalize l.any badStored = q2 at *
  generalize l.map (fun x => x.Key) = ks at *
  obtain ⟨n, hn⟩ : ∃ n : Nat, l.length = n := ⟨_, rfl⟩
  rw [hn] at Hk Hc Hh hl ⊢
  have hnb : (n : Int) ≤ 1048576 := by omega
  clear hn hl
  by_cases h24 : n ≤ 24
  rotate_left
  · have h25 : ¬ (n : Int) ≤ 24 := by omega
    rw [show decide (n ≤ 24) = false from by simpa using h24]
    go_enter Try.func100, Try.ntmps100
    go_wp2
    go_ret
    exact ⟨ret_bool (by first | rfl | (simp; omega)), Below.refl _ _⟩
  · have h25 : (n : Int) ≤ 24 := by omega
    rw [show decide (n ≤ 24) = true from by simpa using h24]
    clear h24
    cases q1
    · go_enter Try.func100, Try.ntmps100
      go_wp2_with fail
      refine Hk.out.mono ?_
      rintro e w1 ⟨u, rfl, o1, k1⟩
      have r1 := o1.rd
      clear o1
      go_wp2_with fail
      refine (Hr.out _ _ r1).mono ?_
      rintro e w2 ⟨rfl, k2⟩
      go_wp2
      go_ret
      exact ⟨ret_bool rfl, below_after k2 k1⟩
    · go_enter Try.func100, Try.ntmps100
      go_wp2_with fail
      refine Hk.out.mono ?_
      rintro e w1 ⟨u, rfl, o1, k1⟩
      have r1 := o1.rd
      clear o1
      go_wp2_with fail
      refine (Hr.out _ _ r1).mono ?_
      rintro e w2 ⟨rfl, k2⟩
      have b2 := below_after k2 k1
      clear k1 k2 r1
      go_wp2_with fail
      refine (Hc.out _ (Hh.out.below b2)).mono ?_
      rintro e w3 ⟨rfl, k3⟩
      go_wp2
      go_ret
      exact ⟨ret_bool (by cases q2 <;> rfl), below_after k3 b2⟩

set_option maxRecDepth 100000 in
set_option maxHeartbeats 1600000 in
/-- spec.l3Writes -/
theorem l3Writes_any (v : Value) (l : List WriteD) (hl : l.length ≤ 1048576) (w : World) (h : Rd Cod.write w v l) :
    Calls Try.prog 125 #[v] w fun e w' => e = .returned (.bool (goodWB l)) ∧ Below w.heap.size w w' := by
  obtain ⟨p, c, rfl, _, _, r⟩ := h.form
  have R := Lib.hid r
  clear r h
  obtain ⟨n, hn⟩ : ∃ n : Nat, l.length = n := ⟨_, rfl⟩
  have Hn := Lib.hid hn
  rw [hn]
  have hnb : (n : Int) ≤ 1048576 := by omega
  clear hn hl
  go_enter Try.func125, Try.ntmps125
  go_wp2
  go_loopw [7] (fun i wr => ∃ k : Nat, i = .int .i64 (k : Int) ∧ k ≤ n ∧ Hid (∀ j, j < k → WAt l j) ∧ Below w.heap.size w wr) (fun i _ => n - (intOf i).toNat)
  case atStart => exact ⟨0, rfl, Nat.zero_le _, Lib.hid (fun j h => by omega), Below.refl _ _⟩
  case round =>
    obtain ⟨k, rfl, hk, Hall, hb⟩ := hrel
    by_cases hlt : k < n
    · have hlt2 : (k : Int) < (n : Int) := by omega
      have hkl : k < l.length := by have := Hn.out; omega
      obtain ⟨g, o, rfl, hg, hc⟩ := R.out (by have := Hn.out; omega)
      have at0 := (hc k hkl).below hg hb
      have hgl : g < wr.heap.size := by have := hb.size; omega
      by_cases hk0 : k = 0
      · have hd : decide (0 < k) = false := by simp; omega
        have Hne : Hid ((keyB l[k].Key && storedB l[k].Val l[k].Gone) = false → goodWB l = false) := Lib.hid fun h => goodWB_bad hkl fun hr => by
          rw [(hr hkl).1] at h
          cases h
        have Hnx : Hid ((keyB l[k].Key && storedB l[k].Val l[k].Gone) = true → ∀ j, j < k + 1 → WAt l j) := Lib.hid fun h j hj hjl => by
          by_cases e : j = k
          · subst e
            exact ⟨h, fun m hm => by omega⟩
          · exact Hall.out j (by omega) hjl
        obtain ⟨x, es⟩ : ∃ x, l[k] = x := ⟨_, rfl⟩
        rw [es] at at0 Hne Hnx
        obtain ⟨d0, d1, d2, z0, z1⟩ := at_write at0
        rw [show o + k * Cod.write.size = o + k * 3 from rfl] at *
        have Hc := Lib.hid (l3Write_any x.Key x.Val x.Gone z0 z1)
        clear hc es hkl hk0 at0 z0 z1
        generalize (keyB x.Key && storedB x.Val x.Gone) = b at *
        cases b
        · have Hq := Lib.hid (Hne.out (by first | rfl | trivial))
          go_wp2_with fail
          have hx2 := fun (u : World) (b o : Nat) (h : b < wr.heap.size + 1) => ext_cell (wr.alloc (.cells #[.string x.Key, .string x.Val, .bool x.Gone] 112)) u b o h
          refine wp_region_ext (by kernel_rfl) (by kernel_rfl) (wr.heap.size + 1) ?_
          repeat (any_goals (go_big_quiet_step ((go_at_call 137; exact calls_ext (by first | (simp; done) | omega | (simp; omega)) (Hc.out _)))))
          refine wpQuiet_nil ?_
          intro w2 hb2
          clear hx2
          go_wp2
          go_ret
          exact ⟨ret_bool (by rw [Hq.out]), (below_alloc _ hb).trans (hb2.mono (by have := hb.size; omega))⟩
        · have Hq := Lib.hid (Hnx.out (by first | rfl | trivial))
          go_wp2_with fail
          have hx2 := fun (u : World) (b o : Nat) (h : b < wr.heap.size + 1) => ext_cell (wr.alloc (.cells #[.string x.Key, .string x.Val, .bool x.Gone] 112)) u b o h
          refine wp_region_ext (by kernel_rfl) (by kernel_rfl) (wr.heap.size + 1) ?_
          repeat (any_goals (go_big_quiet_step ((go_at_call 137; exact calls_ext (by first | (simp; done) | omega | (simp; omega)) (Hc.out _)))))
          refine wpQuiet_nil ?_
          intro w2 hb2
          clear hx2
          go_wp2
          go_roundw
          case rel => exact ⟨k + 1, by go_num, by omega, Hq, (below_alloc _ hb).trans (hb2.mono (by have := hb.size; omega))⟩
          case measure => simp [intOf]; omega
      · obtain ⟨m, hm⟩ : ∃ m, m + 1 = k := ⟨k - 1, by omega⟩
        have hml : m < l.length := by omega
        have at1 := (hc m hml).below hg hb
        have Hne : Hid ((keyB l[k].Key && storedB l[k].Val l[k].Gone) = false → goodWB l = false) := Lib.hid fun h => goodWB_bad hkl fun hr => by
          rw [(hr hkl).1] at h
          cases h
        have Hne2 : Hid (ltB l[m].Key l[k].Key = false → goodWB l = false) := Lib.hid fun h => goodWB_bad hkl fun hr => by
          rw [(hr hkl).2 m hm] at h
          cases h
        have Hnx : Hid ((keyB l[k].Key && storedB l[k].Val l[k].Gone) = true → ltB l[m].Key l[k].Key = true → ∀ j, j < k + 1 → WAt l j) := Lib.hid fun h h2 j hj hjl => by
          by_cases e : j = k
          · subst e
            refine ⟨h, fun m' hm' => ?_⟩
            obtain rfl : m' = m := by omega
            exact h2
          · exact Hall.out j (by omega) hjl
        obtain ⟨x, es⟩ : ∃ x, l[k] = x := ⟨_, rfl⟩
        obtain ⟨y, et⟩ : ∃ y, l[m] = y := ⟨_, rfl⟩
        rw [es] at at0 Hne Hnx Hne2
        rw [et] at at1 Hnx Hne2
        obtain ⟨d0, d1, d2, z0, z1⟩ := at_write at0
        have c0 := (at_write at1).1
        rw [show o + k * Cod.write.size = o + k * 3 from rfl] at *
        rw [show o + m * Cod.write.size = o + m * 3 from rfl] at *
        have Hc := Lib.hid (l3Write_any x.Key x.Val x.Gone z0 z1)
        have hd : decide (0 < k) = true := by simp; omega
        have hkm : IntKind.i64.wrap ((k : Int) - 1) = (m : Int) := by rw [IntWalk.i64_in _ (by omega)]; omega
        have hmn : (m : Int) < (n : Int) := by omega
        have hm0 : (0 : Int) ≤ (m : Int) := by omega
        clear hc es et hkl hk0 at0 at1 z0 z1 hml hm
        generalize (keyB x.Key && storedB x.Val x.Gone) = b at *
        cases b
        · have Hq := Lib.hid (Hne.out (by first | rfl | trivial))
          go_wp2_with fail
          have hx2 := fun (u : World) (b o : Nat) (h : b < wr.heap.size + 1) => ext_cell (wr.alloc (.cells #[.string x.Key, .string x.Val, .bool x.Gone] 112)) u b o h
          refine wp_region_ext (by kernel_rfl) (by kernel_rfl) (wr.heap.size + 1) ?_
          repeat (any_goals (go_big_quiet_step ((go_at_call 137; exact calls_ext (by first | (simp; done) | omega | (simp; omega)) (Hc.out _)))))
          refine wpQuiet_nil ?_
          intro w2 hb2
          clear hx2 hkm
          go_wp2
          go_ret
          exact ⟨ret_bool (by rw [Hq.out]), (below_alloc _ hb).trans (hb2.mono (by have := hb.size; omega))⟩
        · have hlb : Op.bytesLess y.Key.toList x.Key.toList = ltB y.Key x.Key := rfl
          generalize ltB y.Key x.Key = b2 at *
          cases b2
          · have Hq := Lib.hid (Hne2.out (by first | rfl | trivial))
            go_wp2_with fail
            have hx2 := fun (u : World) (b o : Nat) (h : b < wr.heap.size + 1) => ext_cell (wr.alloc (.cells #[.string x.Key, .string x.Val, .bool x.Gone] 112)) u b o h
            refine wp_region_ext (by kernel_rfl) (by kernel_rfl) (wr.heap.size + 1) ?_
            repeat (any_goals (go_big_quiet_step ((go_at_call 137; exact calls_ext (by first | (simp; done) | omega | (simp; omega)) (Hc.out _)))))
            refine wpQuiet_nil ?_
            intro w2 hb2
            clear hx2 hkm
            go_wp2
            go_ret
            exact ⟨ret_bool (by rw [Hq.out]), (below_alloc _ hb).trans (hb2.mono (by have := hb.size; omega))⟩
          · have Hq := Lib.hid (Hnx.out (by first | rfl | trivial) (by first | rfl | trivial))
            go_wp2_with fail
            have hx2 := fun (u : World) (b o : Nat) (h : b < wr.heap.size + 1) => ext_cell (wr.alloc (.cells #[.string x.Key, .string x.Val, .bool x.Gone] 112)) u b o h
            refine wp_region_ext (by kernel_rfl) (by kernel_rfl) (wr.heap.size + 1) ?_
            repeat (any_goals (go_big_quiet_step ((go_at_call 137; exact calls_ext (by first | (simp; done) | omega | (simp; omega)) (Hc.out _)))))
            refine wpQuiet_nil ?_
            intro w2 hb2
            clear hx2 hkm
            go_wp2
            go_roundw
            case rel => exact ⟨k + 1, by go_num, by omega, Hq, (below_alloc _ hb).trans (hb2.mono (by have := hb.size; omega))⟩
            case measure => simp [intOf]; omega
    · have hlt2 : (n : Int) ≤ (k : Int) := by omega
      obtain rfl : k = n := by omega
      by_cases h24 : k ≤ 24
      · have h25 : (k : Int) ≤ 24 := by omega
        have Hq : Hid (goodWB l = true) := Lib.hid (goodWB_true (by have := Hn.out; omega) fun j hj => Hall.out j (by have := Hn.out; omega))
        go_wp2
        go_ret
        exact ⟨ret_bool (by rw [Hq.out]), hb⟩
      · have h25 : (24 : Int) < (k : Int) := by omega
        have Hq : Hid (goodWB l = false) := Lib.hid (goodWB_long (by have := Hn.out; omega))
        go_wp2
        go_ret
        exact ⟨ret_bool (by rw [Hq.out]; first | rfl | (simp; omega)), hb⟩

end Go.Proofs.Ytogdbjalgledpaa
