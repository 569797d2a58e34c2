/- spec.l4KeysOf, impl.keysOf. -/
import Derived.Test.YtibgpjkpfakgiaaPutS
import Derived.Test.YtibgpjkpfakgiaaSortS
import Derived.Test.YtibgpjkpfakgiaaCloneString
import Derived.Test.YtibgpjkpfakgiaaGWrites
namespace Go.Proofs.Ytibgpjkpfakgiaa
open Go.RowKit

theorem setL_nil : setL [] = [] := by simp [setL, strsOf, Lib.compact, Lib.compactUpTo]
theorem setL_length (l : List ByteArray) : (setL l).length ≤ l.length := by
  unfold setL Lib.compact Lib.compactUpTo
  rw [List.length_map, List.length_map]
  refine Nat.le_trans (List.length_filter_le _ _) ?_
  rw [List.length_range, List.length_mergeSort]
  simp [strsOf]
theorem setL_pos {l : List ByteArray} (h : l ≠ []) : 0 < (setL l).length := by
  obtain ⟨x, hx⟩ := List.exists_mem_of_ne_nil _ h
  exact List.length_pos_of_mem ((setL_spec l).2 x |>.2 hx)
theorem setL_eq {l r : List ByteArray} (h : Rise r) (hm : ∀ x, x ∈ r ↔ x ∈ l) : r = setL l :=
  rise_unique h (setL_spec l).1 fun x => (hm x).trans ((setL_spec l).2 x).symm
theorem putS_setL {s : ByteArray} {l r : List ByteArray} (h : PutS s (setL l) r) : r = setL (l ++ [s]) := by
  obtain ⟨h1, h2⟩ := putS_rise (setL_spec l).1 h
  refine setL_eq h1 fun x => ?_
  rw [h2, (setL_spec l).2, List.mem_append, List.mem_singleton]
  exact Or.comm

/-- spec.l4PutS -/
theorem l4PutS_any (v : Value) (l : List ByteArray) (hl : l.length ≤ 1048575) (hz : l = [] → v = .slice none 0 0) (s : ByteArray) (hs : s.size ≤ maxLen) (base : Nat) (w : World) (h : Own Cod.str w base v l) (hbw : base ≤ w.heap.size) :
    Calls Try.prog 70 #[v, .string s] w (PutPost s l base w) := by
  by_cases h0 : l = []
  · subst h0
    rw [hz rfl]
    exact l4PutS_nil s hs base w hbw
  · have hpos : 0 < l.length := Nat.pos_of_ne_zero fun e => h0 (List.eq_nil_of_length_eq_zero e)
    obtain ⟨p, cap, rfl, _, _, h3⟩ := own_texts h
    obtain ⟨g, o, rfl, _⟩ := h3 hpos
    exact l4PutS_some g o _ cap l hl hpos s hs base w h hbw

set_option maxRecDepth 100000 in
set_option maxHeartbeats 3200000 in
/-- spec.l4KeysOf -/
theorem l4KeysOf_any (v1 v2 : Value) (L1 : List ByteArray) (L2 : List WriteD) (h12 : L1.length + L2.length ≤ 1048576) (hs1 : ∀ j (h : j < L1.length), L1[j].size ≤ maxLen) (w : World) (r1 : Rd Cod.str w v1 L1) (r2 : Rd Cod.write w v2 L2) :
    Calls Try.prog 42 #[v1, v2] w fun e w' => ∃ v', e = .returned v' ∧ Own Cod.str w' w.heap.size v' (setL (L1 ++ L2.map fun x => x.Key)) ∧ Below w.heap.size w w' := by
  obtain ⟨p1, c1, rfl, _, _, q1⟩ := r1.form
  obtain ⟨p2, c2, rfl, _, _, q2⟩ := r2.form
  have R1 := Lib.hid q1
  have R2 := Lib.hid q2
  have Hs1 := Lib.hid hs1
  obtain ⟨n, hn⟩ : ∃ n : Nat, L1.length = n := ⟨_, rfl⟩
  obtain ⟨m, hm⟩ : ∃ m : Nat, L2.length = m := ⟨_, rfl⟩
  have Hn := Lib.hid hn
  have Hm := Lib.hid hm
  rw [hn, hm]
  have hnmb : (n : Int) + (m : Int) ≤ 1048576 := by omega
  have hnb : (n : Int) ≤ 1048576 := by omega
  have hmb : (m : Int) ≤ 1048576 := by omega
  clear hn hm h12 r1 r2 q1 q2 hs1
  go_enter Try.func42, Try.ntmps42
  go_wp2
  go_loopw [5, 12] (fun a i wr => ∃ k : Nat, i = .int .i64 (k : Int) ∧ k ≤ n ∧ Hid (Own Cod.str wr w.heap.size a (setL (L1.take k))) ∧ Hid (k = 0 → a = .slice none 0 0) ∧ Below w.heap.size w wr) (fun _ i _ => n - (intOf i).toNat)
  case atStart => exact ⟨0, rfl, Nat.zero_le _, Lib.hid (by rw [List.take_zero, setL_nil]; exact own_nil0 _ _ _), Lib.hid (fun _ => rfl), Below.refl _ _⟩
  case round =>
    obtain ⟨k, rfl, hk, Ho, Hz, hb⟩ := hrel
    have hbs := hb.size
    by_cases hlt : k < n
    · have hlt2 : (k : Int) < (n : Int) := by omega
      have hkl : k < L1.length := by have := Hn.out; omega
      obtain ⟨g, o, rfl, hg, hc⟩ := R1.out (by have := Hn.out; omega)
      obtain ⟨_, d0, z0, _⟩ := (hc k hkl).below hg hb
      replace d0 : wr.cell? ⟨g, o + k, none⟩ = some (.string L1[k]) := by
        have h2 : wr.cell? ⟨g, o + k * 1 + 0, none⟩ = some (.string L1[k]) := d0
        rwa [Nat.mul_one] at h2
      have Hc := Lib.hid (l4PutS_any _ (setL (L1.take k)) (by have := setL_length (L1.take k); rw [List.length_take] at this; omega) (fun e => Hz.out (by
        by_cases e0 : k = 0
        · exact e0
        · exfalso
          have := setL_pos (l := L1.take k) (fun e1 => by have := congrArg List.length e1; rw [List.length_take, List.length_nil] at this; have := Hn.out; omega)
          rw [e] at this
          simp at this)) L1[k] z0 w.heap.size wr Ho.out hbs)
      have Ht : Hid (L1.take (k + 1) = L1.take k ++ [L1[k]]) := Lib.hid (List.take_succ_eq_append_getElem hkl)
      obtain ⟨x, es⟩ : ∃ x, L1[k] = x := ⟨_, rfl⟩
      rw [es] at d0 Hc Ht
      clear es hc z0 hkl
      go_wp2_with fail
      refine Hc.out.mono ?_
      rintro e w1 ⟨v', r, rfl, hp, ho, k1⟩
      have Hr := Lib.hid (putS_setL hp)
      have Ho1 := Lib.hid ho
      clear hp ho
      go_wp2
      go_roundw
      case rel => exact ⟨k + 1, by go_num, by omega, Lib.hid (by rw [Ht.out, ← Hr.out]; exact Ho1.out), Lib.hid (fun h => by omega), below_after k1 hb⟩
      case measure => simp [intOf]; omega
    · have hlt2 : (n : Int) ≤ (k : Int) := by omega
      obtain rfl : k = n := by omega
      have HL : Hid (L1.take k = L1) := Lib.hid (List.take_of_length_le (by have := Hn.out; omega))
      have Ho2 : Hid (Own Cod.str wr w.heap.size _ (setL (L1 ++ (L2.take 0).map fun x => x.Key))) := Lib.hid (by have := Ho.out; rw [HL.out] at this; simpa using this)
      have Hz2 : Hid (k + 0 = 0 → _) := Hz
      clear Ho Hz
      go_wp2
      go_loopw [5, 22] (fun a i wr => ∃ j : Nat, i = .int .i64 (j : Int) ∧ j ≤ m ∧ Hid (Own Cod.str wr w.heap.size a (setL (L1 ++ (L2.take j).map fun x => x.Key))) ∧ Hid (k + j = 0 → a = .slice none 0 0) ∧ Below w.heap.size w wr) (fun _ i _ => m - (intOf i).toNat)
      case atStart => exact ⟨0, rfl, Nat.zero_le _, Ho2, Hz2, hb⟩
      case round =>
        obtain ⟨j, rfl, hj, Ho, Hz, hb⟩ := hrel
        have hbs := hb.size
        by_cases hlt : j < m
        · have hlt2 : (j : Int) < (m : Int) := by omega
          have hjl : j < L2.length := by have := Hm.out; omega
          obtain ⟨g, o, rfl, hg, hc⟩ := R2.out (by have := Hm.out; omega)
          have at0 := (hc j hjl).below hg hb
          have Ht : Hid ((L2.take (j + 1)).map (fun x => x.Key) = (L2.take j).map (fun x => x.Key) ++ [L2[j].Key]) := Lib.hid (by rw [List.take_succ_eq_append_getElem hjl, List.map_append]; rfl)
          obtain ⟨x, es⟩ : ∃ x, L2[j] = x := ⟨_, rfl⟩
          rw [es] at at0 Ht
          obtain ⟨d0, d1, d2, z0, z1⟩ := at_write at0
          rw [show o + j * Cod.write.size = o + j * 3 from rfl] at *
          clear es hc hjl at0 z1
          have Hc := Lib.hid (fun (W : World) (b : Below wr.heap.size wr W) => l4PutS_any _ (setL (L1 ++ (L2.take j).map fun x => x.Key)) (by have := setL_length (L1 ++ (L2.take j).map fun x => x.Key); rw [List.length_append, List.length_map, List.length_take] at this; have := Hn.out; omega) (fun e => Hz.out (by
            by_cases e0 : k + j = 0
            · exact e0
            · exfalso
              have := setL_pos (l := L1 ++ (L2.take j).map fun x => x.Key) (fun e1 => by have := congrArg List.length e1; rw [List.length_append, List.length_map, List.length_take, List.length_nil] at this; have := Hn.out; have := Hm.out; omega)
              rw [e] at this
              simp at this)) x.Key z0 w.heap.size W (Ho.out.below b) (Nat.le_trans hbs b.size))
          go_wp2_with fail
          refine (Hc.out _ (by (repeat (first | (with_reducible exact Below.refl _ _) | (with_reducible refine below_setCell ?_ (by first | (simp; done) | (simp; omega) | omega)) | (with_reducible refine below_alloc _ ?_) | (with_reducible refine below_drewN ?_ _) | (with_reducible assumption) | (with_reducible refine below_after (by assumption) ?_))))).mono ?_
          rintro e w1 ⟨v', r, rfl, hp, ho, k1⟩
          have Hr := Lib.hid (putS_setL hp)
          have Ho1 := Lib.hid ho
          have b1 : Below w.heap.size w w1 := below_after k1 (by (repeat (first | (with_reducible exact Below.refl _ _) | (with_reducible refine below_setCell ?_ (by first | (simp; done) | (simp; omega) | omega)) | (with_reducible refine below_alloc _ ?_) | (with_reducible refine below_drewN ?_ _) | (with_reducible assumption) | (with_reducible refine below_after (by assumption) ?_))))
          clear hp ho Hc
          go_wp2
          go_roundw
          case rel => exact ⟨j + 1, by go_num, by omega, Lib.hid (by rw [Ht.out, ← List.append_assoc, ← Hr.out]; exact Ho1.out), Lib.hid (fun h => by omega), b1⟩
          case measure => simp [intOf]; omega
        · have hlt2 : (m : Int) ≤ (j : Int) := by omega
          obtain rfl : j = m := by omega
          go_wp2
          go_ret
          refine ⟨_, rfl, ?_, hb⟩
          have := Ho.out
          rw [List.take_of_length_le (by have := Hm.out; omega)] at this
          exact this

set_option maxRecDepth 100000 in
set_option maxHeartbeats 1600000 in
/-- impl.keysOf -/
theorem keysOf_any (v1 v2 : Value) (L1 : List ByteArray) (L2 : List WriteD) (h12 : L1.length + L2.length ≤ 1048576) (w : World) (r1 : Rd Cod.str w v1 L1) (r2 : Rd Cod.write w v2 L2) :
    Calls Try.prog 45 #[v1, v2] w fun e w' => ∃ v', e = .returned v' ∧ Own Cod.str w' w.heap.size v' (setL (L1 ++ L2.map fun x => x.Key)) ∧ Below w.heap.size w w' := by
  obtain ⟨i0, hi, hz0, hz1, hz2⟩ := info_parts Try_infoP_str
  have H1 := Lib.hid (cloneString_p v1 L1 (by omega) w r1)
  have H2 := Lib.hid (fun (W : World) (b : Below w.heap.size w W) => writeKeys_any v2 L2 (by omega) W (r2.below b))
  have HB : Hid ((L1.length + (L2.map fun x => x.Key).length) * 16 ≤ room) := Lib.hid (by rw [List.length_map]; unfold room; omega)
  have HL : Hid ((L1 ++ L2.map fun x => x.Key).length ≤ 1048576) := Lib.hid (by rw [List.length_append, List.length_map]; omega)
  obtain ⟨p1, c1, rfl, -⟩ := r1.form
  obtain ⟨p2, c2, rfl, -⟩ := r2.form
  generalize (L2.map fun x => x.Key) = K at *
  generalize L2.length = m at *
  obtain ⟨n, hn⟩ : ∃ n : Nat, L1.length = n := ⟨_, rfl⟩
  have Hn := Lib.hid hn
  rw [hn] at H1 HB ⊢
  clear r1 r2 h12 hn
  go_enter Try.func45, Try.ntmps45
  go_wp2_with fail
  refine H1.out.mono ?_
  rintro e w1 ⟨u1, cells1, rfl, P1, k1⟩
  have P1 := Lib.hid P1
  have z1 := k1.size
  go_wp2_with fail
  refine (H2.out _ k1).mono ?_
  rintro e w2 ⟨u2, rfl, o2, k2⟩
  have O2 := Lib.hid o2.rd
  have b2 : Below w.heap.size w w2 := below_after k2 k1
  clear o2
  go_wp2_with (at_builtin; go_must (refine wpList_append_flat (c := Cod.str) flat_str w2 rfl _ _ 22 (by rfl) w.heap.size 9 i0 (.string ⟨#[]⟩) 16 Try.underlying22 hi hz0 hz1 hz2 rfl (by decide) (by decide) w1 u1 n L1 cells1 (by rfl) P1.out Hn.out k2 u2 K (by rfl) O2.out HB.out z1 ?_))
  intro p3 c3 w3 cells3 hp3 hb3
  have O3 : Hid (Own Cod.str w3 w.heap.size (.slice p3 (n + K.length) c3) (L1 ++ K)) := Lib.hid (hp3.own (by rw [List.length_append, Hn.out]))
  have b3 : Below w.heap.size w w3 := b2.trans hb3
  clear hp3 hb3
  generalize n + K.length = N at *
  go_wp2_with fail
  refine (sort_any _ (L1 ++ K) HL.out w.heap.size w3 O3.out).mono ?_
  rintro e w4 ⟨rfl, o4, k4⟩
  have O4 := Lib.hid o4
  have b4 : Below w.heap.size w w4 := b3.trans k4
  clear o4 k4
  go_wp2_with fail
  refine (compact_any _ (sortL (L1 ++ K)) (by rw [sortL_length]; exact HL.out) w.heap.size w4 O4.out).mono ?_
  rintro e w5 ⟨v', rfl, o5, k5⟩
  rw [setL_sort] at o5
  have O5 := Lib.hid o5
  have b5 : Below w.heap.size w w5 := b4.trans k5
  clear o5 k5
  go_wp2
  go_ret
  exact ⟨_, rfl, O5.out, b5⟩

theorem sumC_sub {α : Type} (f : α → Nat) {a b : List α} (h : a.Sublist b) : sumC f a ≤ sumC f b := by
  induction h with
  | slnil => exact Nat.le_refl _
  | cons x _ ih => exact Nat.le_trans ih (by unfold sumC; simp)
  | cons_cons x _ ih => unfold sumC at *; simp; omega
theorem sumC_perm {α : Type} (f : α → Nat) {a b : List α} (h : a.Perm b) : sumC f a = sumC f b := (h.map f).sum_nat
theorem setL_cost (l : List ByteArray) : costStringS (setL l) ≤ costStringS l := by
  have h1 := setL_length l
  have h2 : sumC (fun s : ByteArray => s.size) (setL l) ≤ sumC (fun s : ByteArray => s.size) l := by
    have e : ∀ L : List (List UInt8), sumC (fun s : ByteArray => s.size) (L.map baOf) = sumC List.length L := fun L => by
      unfold sumC
      rw [List.map_map]
      rfl
    have e2 : sumC (fun s : ByteArray => s.size) l = sumC List.length (strsOf l) := by rw [← e, map_baOf]
    rw [e2, ← sumC_perm _ (List.mergeSort_perm (strsOf l) fun x y => decide (x ≤ y))]
    unfold setL
    rw [e]
    generalize (strsOf l).mergeSort (fun x y => decide (x ≤ y)) = ss
    refine sumC_sub _ ?_
    unfold Lib.compact Lib.compactUpTo
    have := Lib.range_map_get ss.toArray
    simp only [List.size_toArray] at this
    conv => rhs; rw [← this]
    exact (List.filter_sublist).map _
  unfold costStringS
  omega

theorem keys_cost (y : RecD) : costStringS (y.Reads ++ y.Writes.map fun x => x.Key) ≤ costRec y := by
  have h : ∀ l : List WriteD, sumC (fun s : ByteArray => s.size) (l.map fun x => x.Key) ≤ sumC costWrite l := fun l => by
    induction l with
    | nil => exact Nat.le_refl _
    | cons x l ih => unfold sumC at *; simp [costWrite]; simp [costWrite] at ih; omega
  have h1 := h y.Writes
  have h2 : sumC (fun s : ByteArray => s.size) (y.Reads ++ y.Writes.map fun x => x.Key) = sumC (fun s : ByteArray => s.size) y.Reads + sumC (fun s : ByteArray => s.size) (y.Writes.map fun x => x.Key) := by
    unfold sumC
    simp
  unfold costStringS costRec costStringS costWriteS
  rw [h2, List.length_append, List.length_map]
  omega

end Go.Proofs.Ytibgpjkpfakgiaa
