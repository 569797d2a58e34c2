/- spec.l5Rows, spec.l5PutRows, spec.PutRows. -/
import Derived.Test.YtkcidneefdaaiaaPutWS
import Derived.Test.YtkcidneefdaaiaaPutWX
namespace Go.Proofs.Ytkcidneefdaaiaa
open Go.RowKit

set_option maxRecDepth 100000 in
set_option maxHeartbeats 3200000 in
/-- spec.l5Rows -/
theorem l5Rows_any (v : Value) (l : List WriteD) (hl : l.length ≤ 1048576) (w : World) (h : Rd Cod.write w v l) :
    Calls Try.prog 20 #[v] w fun e w' => e = .returned (.bool (rowsB l)) ∧ Below w.heap.size w w' := by
  have Hg := Lib.hid (fun (W : World) (k : Below w.heap.size w W) => l3Writes_any v l hl W (h.below k))
  obtain ⟨p, c, rfl, _, _, r⟩ := h.form
  have R := Lib.hid r
  obtain ⟨n, hn⟩ : ∃ n, l.length = n := ⟨_, rfl⟩
  have Hn := Lib.hid hn
  rw [hn] at hl Hg ⊢
  have hnI : (n : Int) ≤ 1048576 := by omega
  rw [rowsB_eq]
  clear h r hn
  go_enter Try.func20, Try.ntmps20
  go_wp2
  go_loopw [7] (fun i wr => ∃ k : Nat, i = .int .i64 (k : Int) ∧ k ≤ n ∧ Hid (∀ j (h : j < l.length), j < k → goneB l[j] = false) ∧ Below w.heap.size w wr) (fun i _ => n - (intOf i).toNat)
  case atStart => exact ⟨0, rfl, Nat.zero_le _, Lib.hid (fun j _ h => by omega), Below.refl _ _⟩
  case round =>
    obtain ⟨k, rfl, hk, Hall, hb⟩ := hrel
    by_cases hlt : k < n
    · have hltI : (k : Int) < (n : Int) := by omega
      have hkl : k < l.length := by have := Hn.out; omega
      obtain ⟨g, o, rfl, hg, hc⟩ := R.out (by have := Hn.out; omega)
      have at0 := (hc k hkl).below hg hb
      have Hb : Hid (goneB l[k] = true → (goodWB l && !l.any goneB) = false) := Lib.hid fun h => by
        rw [List.any_eq_true.2 ⟨l[k], List.getElem_mem hkl, h⟩]
        simp
      have Hnx : Hid (goneB l[k] = false → ∀ j (h : j < l.length), j < k + 1 → goneB l[j] = false) := Lib.hid fun h j hj hjk => by
        by_cases e : j = k
        · subst e; exact h
        · exact Hall.out j hj (by omega)
      obtain ⟨x, es⟩ : ∃ x, l[k] = x := ⟨_, rfl⟩
      rw [es] at at0 Hb Hnx
      clear hc es hkl
      obtain ⟨d0, d1, d2, z0, z1⟩ := at_write at0
      rw [show o + k * Cod.write.size = o + k * 3 from rfl] at *
      clear at0
      have hgx : goneB x = x.Gone := rfl
      rw [hgx] at Hb Hnx
      clear hgx
      generalize x.Gone = b at *
      cases b
      · have Hq := Lib.hid (Hnx.out rfl)
        clear Hb Hnx
        go_wp2
        go_roundw
        case rel => exact ⟨k + 1, by go_num, by omega, Hq, by (repeat (first | (with_reducible exact Below.refl _ _) | (with_reducible refine below_setCell ?_ (by first | (simp; done) | (simp; omega) | omega)) | (with_reducible refine below_alloc _ ?_) | (with_reducible refine below_drewN ?_ _) | (with_reducible assumption) | (with_reducible refine below_after (by assumption) ?_)))⟩
        case measure => simp [intOf]; omega
      · have Hq := Lib.hid (Hb.out rfl)
        clear Hb Hnx
        go_wp2
        go_ret
        exact ⟨ret_bool (by rw [Hq.out]), by (repeat (first | (with_reducible exact Below.refl _ _) | (with_reducible refine below_setCell ?_ (by first | (simp; done) | (simp; omega) | omega)) | (with_reducible refine below_alloc _ ?_) | (with_reducible refine below_drewN ?_ _) | (with_reducible assumption) | (with_reducible refine below_after (by assumption) ?_)))⟩
    · have hltI : (n : Int) ≤ (k : Int) := by omega
      obtain rfl : k = n := by omega
      have Hq : Hid ((goodWB l && !l.any goneB) = goodWB l) := Lib.hid (by
        have : l.any goneB = false := List.any_eq_false.2 fun x hx => by
          obtain ⟨j, hj, rfl⟩ := List.getElem_of_mem hx
          rw [Hall.out j hj (by have := Hn.out; omega)]
          simp
        rw [this]
        simp)
      clear Hall
      go_wp2_with fail
      refine (Hg.out _ hb).mono ?_
      rintro e w2 ⟨rfl, k2⟩
      go_wp2
      go_ret
      exact ⟨ret_bool (by rw [Hq.out]), below_after k2 hb⟩

/-- spec.l5PutW -/
theorem l5PutW_any (v : Value) (l : List WriteD) (x : WriteD) (cells : List Value) (base : Nat) (hs : RiseW l) (hl : l.length ≤ 1048574) (hx1 : x.Key.size ≤ maxLen) (hx2 : x.Val.size ≤ maxLen) (w : World)
    (hP : PartC Cod.write w base 45 v l.length l cells) : Calls Try.prog 41 #[v, .agg #[.string x.Key, .string x.Val, .bool x.Gone]] w (PutSPost x l w) := by
  rcases own_forms hP.choose_spec.1 with ⟨rfl, h2⟩ | ⟨g, cap, rfl⟩
  · obtain rfl : l = [] := List.eq_nil_of_length_eq_zero h2
    exact l5PutW_nil x hx1 hx2 w
  · exact l5PutW_row g cap l x cells base hs hl hx1 hx2 w hP

theorem filter_take {l : List WriteD} {k : Nat} (h : k < l.length) : (l.take (k + 1)).filter notGone = (l.take k).filter notGone ++ (if l[k].Gone = true then [] else [l[k]]) := by
  rw [List.take_succ_eq_append_getElem h, List.filter_append, List.filter_cons]
  unfold notGone
  cases l[k].Gone <;> simp

set_option maxRecDepth 100000 in
set_option maxHeartbeats 6400000 in
/-- spec.l5PutRows -/
theorem l5PutRows_any (v0 v1 : Value) (l ws : List WriteD) (hs : RiseW l) (hl : l.length ≤ 1000) (hw : ws.length ≤ 1000) (w : World) (h0 : Rd Cod.write w v0 l) (h1 : Rd Cod.write w v1 ws) :
    Calls Try.prog 22 #[v0, v1] w fun e w' => ∃ v', e = .returned v' ∧ Own Cod.write w' w.heap.size v' (rowsL l ws) ∧ Below w.heap.size w w' := by
  obtain ⟨i0, hi, hz0, hz1, hz2⟩ := info_parts Try_infoI_Write
  have HR0 := Lib.hid (fun (W : World) (k : Below w.heap.size w W) => h0.below k)
  obtain ⟨p, c, rfl, _, _, r⟩ := h1.form
  have R := Lib.hid r
  have Hs := Lib.hid hs
  obtain ⟨n, hn⟩ : ∃ n, ws.length = n := ⟨_, rfl⟩
  have Hn := Lib.hid hn
  have Hl := Lib.hid hl
  have Hroom : Hid ((0 + l.length) * 40 ≤ room) := Lib.hid (by unfold room; omega)
  rw [hn] at hw ⊢
  have hnI : (n : Int) ≤ 1000 := by omega
  clear h0 h1 r hs hn hl
  go_enter Try.func22, Try.ntmps22
  go_wp2_with (at_builtin; go_must (refine wpList_append_flat (c := Cod.write) flat_write (w.alloc (.cells #[] 45)) rfl _ _ 24 (by rfl) w.heap.size 45 i0 (.agg #[.string ⟨#[]⟩, .string ⟨#[]⟩, .bool false]) 40 Try.underlying24 hi hz0 hz1 hz2 rfl (by decide) (by decide) (w.alloc (.cells #[] 45)) (.slice (some ⟨w.heap.size, 0, none⟩) 0 0) 0 [] [] (by rfl) (part_start (made0 rfl (Nat.le_refl _))) rfl (Below.refl _ _) _ l (by rfl) (HR0.out _ (below_new _ _)) Hroom.out (by simp) ?_))
  intro p1 c1 w1 cells hP k1'
  have k1 : Below w.heap.size w w1 := (below_new _ _).trans k1'
  try simp only [Nat.zero_add, List.nil_append] at hP
  try simp only [Nat.zero_add]
  have HP := Lib.hid hP
  clear hP k1' HR0 Hroom
  go_wp2_with fail
  go_loopw [5, 16] (fun a i wr => ∃ (k : Nat) (cs : List Value) (va : Value), va = a ∧ i = .int .i64 (k : Int) ∧ k ≤ n ∧ Hid (PartC Cod.write wr w.heap.size 45 va (putAll l (ws.take k)).length (putAll l (ws.take k)) cs) ∧ Below w.heap.size w wr) (fun _ i _ => n - (intOf i).toNat)
  case atStart => exact ⟨0, cells, _, rfl, rfl, Nat.zero_le _, HP, k1⟩
  case round =>
    obtain ⟨k, cs, va, rfl, rfl, hk, Hp, hb⟩ := hrel
    clear HP k1
    have Hlen : Hid ((putAll l (ws.take k)).length ≤ 2000) := Lib.hid (by have h1 := putAll_length (ws.take k) l; rw [List.length_take] at h1; have := Hl.out; omega)
    have Hr := Lib.hid (putAll_rise (ws.take k) Hs.out)
    by_cases hlt : k < n
    · have hltI : (k : Int) < (n : Int) := by omega
      have hkl : k < ws.length := by have := Hn.out; omega
      obtain ⟨g, o, rfl, hg, hc⟩ := R.out (by have := Hn.out; omega)
      have at0 := (hc k hkl).below hg hb
      have Ht := Lib.hid (putAll_take (l := l) hkl)
      obtain ⟨x, es⟩ : ∃ x, ws[k] = x := ⟨_, rfl⟩
      rw [es] at at0 Ht
      clear hc es hkl
      obtain ⟨d0, d1, d2, z0, z1⟩ := at_write at0
      rw [show o + k * Cod.write.size = o + k * 3 from rfl] at *
      clear at0
      generalize putAll l (ws.take k) = L at *
      have Hput := Lib.hid (fun (W : World) (kb : Below wr.heap.size wr W) => l5PutW_any va L x cs w.heap.size Hr.out (by have := Hlen.out; omega) z0 z1 W (Hp.out.below kb))
      clear Hp Hr Hlen
      go_wp2_with fail
      refine (Hput.out _ (by (repeat (first | (with_reducible exact Below.refl _ _) | (with_reducible refine below_setCell ?_ (by first | (simp; done) | (simp; omega) | omega)) | (with_reducible refine below_alloc _ ?_) | (with_reducible refine below_drewN ?_ _) | (with_reducible assumption) | (with_reducible refine below_after (by assumption) ?_))))).mono ?_
      rintro e w3 ⟨v', cs', rfl, hP3, k3⟩
      have hb2 : Below w.heap.size w (wr.alloc (.cells #[.string x.Key, .string x.Val, .bool x.Gone] 45)) := by (repeat (first | (with_reducible exact Below.refl _ _) | (with_reducible refine below_setCell ?_ (by first | (simp; done) | (simp; omega) | omega)) | (with_reducible refine below_alloc _ ?_) | (with_reducible refine below_drewN ?_ _) | (with_reducible assumption) | (with_reducible refine below_after (by assumption) ?_)))
      have HP3 : Hid (PartC Cod.write w3 w.heap.size 45 v' (putAll l (ws.take (k + 1))).length (putAll l (ws.take (k + 1))) cs') := Lib.hid (by rw [Ht.out]; exact partC_mono hP3 hb2.size)
      have hb3 : Below w.heap.size w w3 := below_after k3 hb2
      clear hP3 k3 Hput hb2
      go_wp2
      go_roundw
      case rel => exact ⟨k + 1, cs', _, rfl, by go_num, by omega, HP3, hb3⟩
      case measure => simp [intOf]; omega
    · have hltI : (n : Int) ≤ (k : Int) := by omega
      obtain rfl : k = n := by omega
      have hall : ws.take k = ws := List.take_of_length_le (by have := Hn.out; omega)
      rw [hall] at Hp Hr Hlen
      have hdef : (putAll l ws).filter notGone = rowsL l ws := rfl
      have hO := Hp.out.own rfl
      have Hdef := Lib.hid hdef
      obtain ⟨p2, c2, rfl⟩ := hO.form
      obtain ⟨p2', c2', e2, _, _, r2⟩ := hO.rd.form
      injection e2 with e2 _ e3
      subst e2 e3
      have R2 := Lib.hid r2
      obtain ⟨wo, rfl⟩ : ∃ wo : World, wo = wr := ⟨_, rfl⟩
      clear Hp Hr hall hdef hO r2
      generalize putAll l ws = L at *
      obtain ⟨m, hm⟩ : ∃ m, L.length = m := ⟨_, rfl⟩
      have Hm := Lib.hid hm
      have hmI : (m : Int) ≤ 2000 := by have := Hlen.out; omega
      rw [hm]
      clear hm
      go_wp2_with fail
      go_loopw [8, 26] (fun a i wr => ∃ (j : Nat) (vb : Value), vb = a ∧ i = .int .i64 (j : Int) ∧ j ≤ m ∧ Hid (Part Cod.write wr wo.heap.size 45 vb ((L.take j).filter notGone).length ((L.take j).filter notGone)) ∧ Below wo.heap.size wo wr) (fun _ i _ => m - (intOf i).toNat)
      case atStart => exact ⟨0, _, rfl, rfl, Nat.zero_le _, Lib.hid ⟨[], part_start (World.ownsRow_nil _ _ _ _)⟩, Below.refl _ _⟩
      case round =>
        obtain ⟨j, vb, rfl, rfl, hj, Hp2, hb2⟩ := hrel
        have hbs2 := hb2.size
        by_cases hlt2 : j < m
        · have hjI : (j : Int) < (m : Int) := by omega
          have hjl : j < L.length := by have := Hm.out; omega
          obtain ⟨g, o, rfl, hg, hc⟩ := R2.out (by have := Hm.out; omega)
          have at0 := (hc j hjl).below hg hb2
          have Ht := Lib.hid (filter_take hjl)
          have hfl : ((L.take j).filter notGone).length ≤ 2000 := Nat.le_trans (List.length_filter_le _ _) (by rw [List.length_take]; omega)
          obtain ⟨x, es⟩ : ∃ x, L[j] = x := ⟨_, rfl⟩
          rw [es] at at0 Ht
          clear hc es hjl
          obtain ⟨d0, d1, d2, z0, z1⟩ := at_write at0
          rw [show o + j * Cod.write.size = o + j * 3 from rfl] at *
          clear at0
          have Hx : Hid (∀ W : World, Cod.write.rd W (lst [.string x.Key, .string x.Val, .bool x.Gone]) x []) := Lib.hid fun W => mk_write rfl z0 rfl z1 rfl
          generalize (L.take j).filter notGone = F at *
          obtain ⟨q, hq⟩ : ∃ q, x.Gone = q := ⟨_, rfl⟩
          rw [hq] at d2 Ht Hx
          clear hq
          cases q
          · obtain ⟨cs2, Pc⟩ := Hp2.out
            obtain ⟨pf, cf, rfl⟩ := Pc.form
            have HroomF : Hid ((F.length + 1) * 40 ≤ room) := Lib.hid (by unfold room; omega)
            have Pc3 := Lib.hid (Pc.below (below_new wr (.cells #[.string x.Key, .string x.Val, .bool false] 45)))
            have hz3 : wo.heap.size ≤ (wr.alloc (.cells #[.string x.Key, .string x.Val, .bool false] 45)).heap.size := by simp; omega
            clear Hp2 Pc
            go_wp2_with (at_builtin; go_must (refine wpList_append_part (c := Cod.write) (wr.alloc (.cells #[.string x.Key, .string x.Val, .bool false] 45)) rfl _ _ 24 (by rfl) wo.heap.size 45 45 i0 (.agg #[.string ⟨#[]⟩, .string ⟨#[]⟩, .bool false]) 40 Try.underlying24 hi hz0 hz1 hz2 rfl (by decide) (by decide) (wr.alloc (.cells #[.string x.Key, .string x.Val, .bool false] 45)) _ F.length F cs2 (by rfl) Pc3.out rfl (Below.refl _ _) x [] [.string x.Key, .string x.Val, .bool false] rfl (Hx.out _) (Mine.nil _ _) (wr.heap.size + 1) (by simp) (by rfl) (by simp [Value.oneCell']) HroomF.out hz3 ?_))
            intro g' cap' w4 hp4 hb4
            have Hp4 : Hid (Part Cod.write w4 wo.heap.size 45 (.slice (some ⟨g', 0, none⟩) (F.length + 1) cap') ((L.take (j + 1)).filter notGone).length ((L.take (j + 1)).filter notGone)) := Lib.hid (by rw [Ht.out]; simpa using hp4)
            have hb5 : Below wo.heap.size wo w4 := (hb2.alloc (by omega) _).trans hb4
            clear hp4 hb4 Pc3
            go_wp2
            go_roundw
            case rel => exact ⟨j + 1, _, rfl, by go_num, by omega, Hp4, hb5⟩
            case measure => simp [intOf]; omega
          · have Hp4 : Hid (Part Cod.write (wr.alloc (.cells #[.string x.Key, .string x.Val, .bool true] 45)) wo.heap.size 45 vb ((L.take (j + 1)).filter notGone).length ((L.take (j + 1)).filter notGone)) := Lib.hid (by rw [Ht.out]; simpa using Hp2.out.below (below_new wr _))
            clear Hp2
            go_wp2
            go_roundw
            case rel => exact ⟨j + 1, _, rfl, by go_num, by omega, Hp4, by (repeat (first | (with_reducible exact Below.refl _ _) | (with_reducible refine below_setCell ?_ (by first | (simp; done) | (simp; omega) | omega)) | (with_reducible refine below_alloc _ ?_) | (with_reducible refine below_drewN ?_ _) | (with_reducible assumption) | (with_reducible refine below_after (by assumption) ?_)))⟩
            case measure => simp [intOf]; omega
        · have hjI : (m : Int) ≤ (j : Int) := by omega
          obtain rfl : j = m := by omega
          have HO : Hid (Own Cod.write wr w.heap.size vb (rowsL l ws)) := Lib.hid (by
            have h1 := Hp2.out.own rfl
            rw [List.take_of_length_le (by have := Hm.out; omega), Hdef.out] at h1
            exact h1.mono hb.size)
          have bw : Below w.heap.size w wr := below_after hb2 hb
          clear Hp2
          go_wp2
          go_ret
          exact ⟨_, rfl, HO.out, bw⟩

set_option maxRecDepth 100000 in
/-- spec.PutRows -/
theorem expPutRowsS_any (v0 v1 : Value) (l ws : List WriteD) (hl : l.length ≤ 1048576) (hw : ws.length ≤ 1048576) (w : World) (h0 : Rd Cod.write w v0 l) (h1 : Rd Cod.write w v1 ws) :
    Calls Try.prog 6 #[v0, v1] w (RowsPost (rowsQ l ws) (rowsL l ws) w) := by
  have Ha := Lib.hid (l5Rows_any v0 l hl w h0)
  have Hb := Lib.hid (fun (W : World) (k : Below w.heap.size w W) => l3Writes_any v1 ws hw W (h1.below k))
  have Hc := Lib.hid (fun (q1 : rowsB l = true) (q2 : goodWB ws = true) (W : World) (k : Below w.heap.size w W) => l5PutRows_any v0 v1 l ws
    (by unfold rowsB at q1; simp only [Bool.and_eq_true] at q1; exact goodWB_rise q1.1) (by unfold rowsB at q1; simp only [Bool.and_eq_true] at q1; have := (goodWB_at q1.1).1; omega) (by have := (goodWB_at q2).1; omega) W (h0.below k) (h1.below k))
  have Hd := Lib.hid (fun (q1 : rowsB l = true) (q2 : goodWB ws = true) (v : Value) (W : World) (r : Rd Cod.write W v (rowsL l ws)) => l5Rows_any v (rowsL l ws)
    (by unfold rowsB at q1; simp only [Bool.and_eq_true] at q1; have := (goodWB_at q1.1).1; have := (goodWB_at q2).1; exact Nat.le_trans (List.length_filter_le _ _) (Nat.le_trans (putAll_length ws l) (by omega))) W r)
  have He : Hid (rowsB l = true → goodWB ws = true → rowsB (rowsL l ws) = decide ((rowsL l ws).length ≤ 24)) := Lib.hid fun q1 q2 => rows_good (by unfold rowsB at q1; simp only [Bool.and_eq_true] at q1; exact q1.1) q2
  unfold rowsQ
  generalize rowsB (rowsL l ws) = q4 at *
  generalize rowsB l = q1 at *
  generalize goodWB ws = q2 at *
  generalize decide ((rowsL l ws).length ≤ 24) = q3 at *
  generalize rowsL l ws = r at *
  clear h0 h1 hl hw
  cases q1
  · go_enter Try.func6, Try.ntmps6
    go_wp2_with fail
    refine Ha.out.mono ?_
    rintro e w1 ⟨rfl, k1⟩
    go_wp2
    go_ret2
    exact rows_no k1
  cases q2
  · go_enter Try.func6, Try.ntmps6
    go_wp2_with fail
    refine Ha.out.mono ?_
    rintro e w1 ⟨rfl, k1⟩
    go_wp2_with fail
    refine (Hb.out _ k1).mono ?_
    rintro e w2 ⟨rfl, k2⟩
    go_wp2
    go_ret2
    exact rows_no (below_after k2 k1)
  obtain rfl : q4 = q3 := He.out rfl rfl
  cases q4
  · go_enter Try.func6, Try.ntmps6
    go_wp2_with fail
    refine Ha.out.mono ?_
    rintro e w1 ⟨rfl, k1⟩
    go_wp2_with fail
    refine (Hb.out _ k1).mono ?_
    rintro e w2 ⟨rfl, k2⟩
    have b2 := below_after k2 k1
    clear k2
    go_wp2_with fail
    refine (Hc.out (by first | rfl | trivial) (by first | rfl | trivial) _ b2).mono ?_
    rintro e w3 ⟨v', rfl, o3, k3⟩
    have R3 := Lib.hid o3.rd
    have b3 := below_after k3 b2
    clear o3 k3
    go_wp2_with fail
    refine (Hd.out (by first | rfl | trivial) (by first | rfl | trivial) _ _ R3.out).mono ?_
    rintro e w4 ⟨rfl, k4⟩
    go_wp2
    go_ret2
    exact rows_no (below_after k4 b3)
  · go_enter Try.func6, Try.ntmps6
    go_wp2_with fail
    refine Ha.out.mono ?_
    rintro e w1 ⟨rfl, k1⟩
    go_wp2_with fail
    refine (Hb.out _ k1).mono ?_
    rintro e w2 ⟨rfl, k2⟩
    have b2 := below_after k2 k1
    clear k2
    go_wp2_with fail
    refine (Hc.out (by first | rfl | trivial) (by first | rfl | trivial) _ b2).mono ?_
    rintro e w3 ⟨v', rfl, o3, k3⟩
    have R3 := Lib.hid o3.rd
    have b3 := below_after k3 b2
    clear o3 k3
    go_wp2_with fail
    refine (Hd.out (by first | rfl | trivial) (by first | rfl | trivial) _ _ R3.out).mono ?_
    rintro e w4 ⟨rfl, k4⟩
    have b4 := below_after k4 b3
    clear k4
    go_wp2_with fail
    refine (Hc.out (by first | rfl | trivial) (by first | rfl | trivial) _ b4).mono ?_
    rintro e w5 ⟨v5, rfl, o5, k5⟩
    have HF : Hid (RowsPost true r w (.returned (.tuple #[v5, .bool true])) w5) := Lib.hid (rows_yes (o5.mono b4.size) (below_after k5 b4))
    clear o5 k5
    go_wp2
    go_ret2
    exact HF.out

end Go.Proofs.Ytkcidneefdaaiaa
