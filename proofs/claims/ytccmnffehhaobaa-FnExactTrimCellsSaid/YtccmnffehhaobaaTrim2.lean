/- spec.l3Trim, walked. -/
import Derived.Test.YtccmnffehhaobaaTrim1
namespace Go.Proofs.Ytccmnffehhaobaa
open Go.RowKit

theorem keepV_drop (fl : Int) (vs : List VerD) (j : Nat) (h : j < vs.length) : keepV fl (vs.drop j) = if (decide (fl < vs[j].Time) || (!headLe fl (vs.drop (j + 1)) && !vs[j].Gone)) = true then vs[j] :: keepV fl (vs.drop (j + 1)) else keepV fl (vs.drop (j + 1)) := by
  rw [List.drop_eq_getElem_cons h]
  rfl
theorem headLe_drop (fl : Int) (vs : List VerD) (j : Nat) (h : j < vs.length) : headLe fl (vs.drop j) = decide (vs[j].Time ≤ fl) := by
  rw [List.drop_eq_getElem_cons h]
  rfl
theorem headLe_end (fl : Int) (vs : List VerD) (j : Nat) (h : vs.length ≤ j) : headLe fl (vs.drop j) = false := by
  rw [List.drop_of_length_le h]
  rfl

set_option maxRecDepth 100000 in
set_option maxHeartbeats 3200000 in
/-- spec.l3Trim -/
theorem l3Trim_any (v : Value) (l : List CellD) (fl : Int) (hf : I64 fl) (hl : costCellS l ≤ 1048576) (w : World) (h : Rd Cod.cell w v l) :
    Calls Try.prog 80 #[v, .int .i64 fl] w fun e w' => ∃ v', e = .returned v' ∧ Own Cod.cell w' w.heap.size v' (trimL fl l) ∧ Below w.heap.size w w' := by
  obtain ⟨i0, hi, hz0, hz1, hz2⟩ := info_parts Try_infoT_ver
  obtain ⟨i1, hi1, hy0, hy1, hy2⟩ := info_parts Try_infoT_cell
  obtain ⟨p, c, rfl, _, _, r⟩ := h.form
  have R := Lib.hid r
  have Hl := Lib.hid hl
  clear r h
  obtain ⟨n, hn⟩ : ∃ n : Nat, l.length = n := ⟨_, rfl⟩
  have Hn := Lib.hid hn
  have hnb : (n : Int) ≤ 1048576 := by unfold costCellS at hl; omega
  obtain ⟨hf1, hf2⟩ := hf
  rw [hn]
  clear hn hl
  go_enter Try.func80, Try.ntmps80
  go_wp2
  go_loopw [5, 14] (fun a i wr => ∃ k : Nat, i = .int .i64 (k : Int) ∧ k ≤ n ∧ Hid (Grow Cod.cell wr w.heap.size 100 a (trimL fl (l.take k))) ∧ Below w.heap.size w wr) (fun _ i _ => n - (intOf i).toNat)
  case atStart => exact ⟨0, rfl, Nat.zero_le _, Lib.hid (grow_nil _ _ _ _), Below.refl _ _⟩
  case round =>
    obtain ⟨k, rfl, hk, Hp, hb⟩ := hrel
    have hbs := hb.size
    by_cases hlt : k < n
    · have hlt2 : (k : Int) < (n : Int) := by omega
      have hkl : k < l.length := by have := Hn.out; omega
      obtain ⟨g, o, rfl, hg, hc⟩ := R.out (by have := Hn.out; omega)
      have at0 := (hc k hkl).below hg hb
      have hvl := vers_le Hl.out hkl
      have Ht := Lib.hid (trimL_take fl l k hkl)
      have Hlen := Lib.hid (trimL_cost fl (l.take k)).2
      obtain ⟨x, es⟩ : ∃ x, l[k] = x := ⟨_, rfl⟩
      rw [es] at at0 Ht hvl
      obtain ⟨d0, ⟨u, d1, ru⟩, z0⟩ := at_cell at0
      obtain ⟨pu, cu, rfl, _, _, rv⟩ := ru.form
      rw [show o + k * Cod.cell.size = o + k * 2 from rfl] at *
      clear hc es hkl at0 ru
      obtain ⟨m, hm⟩ : ∃ m : Nat, x.Vers.length = m := ⟨_, rfl⟩
      have Hm := Lib.hid hm
      have hmI : (m : Int) ≤ 1048576 := by omega
      have RV := Lib.hid rv
      clear rv
      rw [hm] at d1 hvl
      clear hm
      obtain ⟨pa, ca, rfl⟩ := Hp.out.form
      generalize hoL : (trimL fl (l.take k)).length = oL at *
      have HoL := Lib.hid hoL
      clear hoL
      have hoLk : oL ≤ k := by have := HoL.out; have := Hlen.out; rw [List.length_take] at this; omega
      clear Hlen
      obtain ⟨cells, Pc⟩ := Hp.out
      rw [HoL.out] at Pc
      have Pc := Lib.hid Pc
      clear Hp
      obtain ⟨w1, rfl⟩ : ∃ w1, w1 = wr := ⟨_, rfl⟩
      go_wp2
      go_loopw [8, 21] (fun a i wr => ∃ (j : Nat) (acc : List VerD), i = .int .i64 (j : Int) ∧ j ≤ m ∧ Hid (acc ++ keepV fl (x.Vers.drop j) = keepV fl x.Vers) ∧ Hid (acc.length ≤ j) ∧ Hid (Grow Cod.ver wr (w1.heap.size + 1) 162 a acc) ∧ Below w1.heap.size w1 wr ∧ w1.heap.size + 1 ≤ wr.heap.size ∧
        wr.cell? ⟨w1.heap.size, 0, none⟩ = some (.string x.Key) ∧ wr.cell? ⟨w1.heap.size, 1, none⟩ = some (.slice pu m cu)) (fun _ i _ => m - (intOf i).toNat)
      case atStart => exact ⟨0, [], rfl, Nat.zero_le _, Lib.hid rfl, Lib.hid (Nat.le_refl _), Lib.hid (grow_nil _ _ _ _), below_new _ _, by simp, by simp [go_sem], by simp [go_sem]⟩
      case round =>
        obtain ⟨j, acc, rfl, hj, Hacc, Hal, Hg, hbi, hsz, c0, c1⟩ := hrel
        by_cases hjt : j < m
        · have hjt2 : (j : Int) < (m : Int) := by omega
          have hjl : j < x.Vers.length := by have := Hm.out; omega
          obtain ⟨gv, ov, rfl, hgv, hcv⟩ := RV.out (by omega)
          have at1 := (hcv j hjl).below hgv hbi
          obtain ⟨e0, e1, e2, zt, zv⟩ := at_ver at1
          rw [show ov + j * Cod.ver.size = ov + j * 3 from rfl] at *
          have Hkd := Lib.hid (keepV_drop fl x.Vers j hjl)
          have Hhe : Hid (m ≤ j + 1 → headLe fl (x.Vers.drop (j + 1)) = false) := Lib.hid fun h => headLe_end fl x.Vers (j + 1) (by have := Hm.out; omega)
          have Hnx : Hid (j + 1 < m → ∃ t' : Int, I64 t' ∧ wr.cell? ⟨gv, ov + (j + 1) * 3, none⟩ = some (.int .i64 t') ∧ headLe fl (x.Vers.drop (j + 1)) = decide (t' ≤ fl)) := Lib.hid fun h => by
            have hl1 : j + 1 < x.Vers.length := by have := Hm.out; omega
            obtain ⟨a0, _, _, a3, _⟩ := at_ver ((hcv (j + 1) hl1).below hgv hbi)
            exact ⟨x.Vers[j + 1].Time, a3, a0, headLe_drop fl x.Vers (j + 1) hl1⟩
          obtain ⟨y, ey⟩ : ∃ y, x.Vers[j] = y := ⟨_, rfl⟩
          rw [ey] at e0 e1 e2 zt zv Hkd
          clear hcv at1 ey hjl
          have Hrd : Hid (∀ W : World, Cod.ver.rd W (lst [.int .i64 y.Time, .string y.Val, .bool y.Gone]) y []) := Lib.hid fun W => mk_ver rfl zt rfl zv rfl
          obtain ⟨yt, yv, yg⟩ := y
          simp only at e0 e1 e2 zt zv Hkd Hrd
          obtain ⟨zt1, zt2⟩ := zt
          obtain ⟨pb, cb, rfl⟩ := Hg.out.form
          obtain ⟨vc, Pv⟩ := Hg.out
          have Pv := Lib.hid Pv
          generalize hLv : headLe fl (x.Vers.drop (j + 1)) = lb at *
          have haI : acc.length ≤ 1048576 := by have := Hal.out; omega
          have Hroom : Hid ((acc.length + 1) * 32 ≤ room) := Lib.hid (by unfold room; omega)
          have Hal1 : Hid (acc.length + 1 ≤ j + 1) := Lib.hid (by have := Hal.out; omega)
          have hway : (lb = false ∧ m ≤ j + 1) ∨ (∃ t' : Int, I64 t' ∧ j + 1 < m ∧ wr.cell? ⟨gv, ov + (j + 1) * 3, none⟩ = some (.int .i64 t') ∧ ((lb = true ∧ t' ≤ fl ∧ decide (t' ≤ fl) = true) ∨ (lb = false ∧ fl < t' ∧ decide (t' ≤ fl) = false))) := by
            by_cases h1 : j + 1 < m
            · obtain ⟨t', a, b, c⟩ := Hnx.out h1
              by_cases h2 : t' ≤ fl
              · exact Or.inr ⟨t', a, h1, b, Or.inl ⟨by rw [c]; simpa using h2, h2, by simpa using h2⟩⟩
              · exact Or.inr ⟨t', a, h1, b, Or.inr ⟨by rw [c]; simpa using h2, by omega, by simpa using h2⟩⟩
            · exact Or.inl ⟨Hhe.out (by omega), by omega⟩
          clear Hnx Hhe hLv
          have HA : Hid ((decide (fl < yt) || (!lb && !yg)) = true → (acc ++ [⟨yt, yv, yg⟩]) ++ keepV fl (x.Vers.drop (j + 1)) = keepV fl x.Vers) := Lib.hid fun h => by
            rw [← Hacc.out, Hkd.out, if_pos h, List.append_assoc]; rfl
          have HB : Hid ((decide (fl < yt) || (!lb && !yg)) = false → acc ++ keepV fl (x.Vers.drop (j + 1)) = keepV fl x.Vers) := Lib.hid fun h => by
            rw [← Hacc.out, Hkd.out, if_neg (by rw [h]; simp)]
          clear Hkd Hacc
          have hway2 : fl < yt ∨ (yt ≤ fl ∧ yg = true) ∨ (yt ≤ fl ∧ yg = false) := by
            rcases Int.lt_or_le fl yt with h | h
            · exact Or.inl h
            · cases yg
              · exact Or.inr (Or.inr ⟨h, rfl⟩)
              · exact Or.inr (Or.inl ⟨h, rfl⟩)
          have hq : ∃ q : Bool, (decide (fl < yt) || (!lb && !yg)) = q := ⟨_, rfl⟩
          obtain ⟨q, hq⟩ := hq
          rw [hq] at HA HB
          have hb0 : w1.heap.size < wr.heap.size := hsz
          have hb00 : gv < wr.heap.size := Nat.lt_of_lt_of_le hgv hbi.size
          have Hend : Hid (∀ W, Below (w1.heap.size + 1) wr W → Below w1.heap.size w1 W ∧ w1.heap.size + 1 ≤ W.heap.size ∧ W.cell? ⟨w1.heap.size, 0, none⟩ = some (.string x.Key) ∧ W.cell? ⟨w1.heap.size, 1, none⟩ = some (.slice (some ⟨gv, ov, none⟩) m cu)) :=
            Lib.hid fun W k => ⟨hbi.trans (k.mono (Nat.le_succ _)), Nat.le_trans hsz k.size, (k.cell (p := ⟨w1.heap.size, 0, none⟩) (Nat.lt_succ_self _)).trans c0, (k.cell (p := ⟨w1.heap.size, 1, none⟩) (Nat.lt_succ_self _)).trans c1⟩
          cases q
          · have HB' := Lib.hid (HB.out rfl)
            clear HA HB
            rcases hway with ⟨rfl, hend⟩ | ⟨t', ⟨ht1, ht2⟩, hin, f0, ⟨rfl, hle, hdec⟩ | ⟨rfl, hgt, hdec⟩⟩ <;> rcases hway2 with htm | ⟨htm, rfl⟩ | ⟨htm, rfl⟩ <;> first
              | (exfalso; simp [htm] at hq; done)
              | (exfalso; rw [decide_eq_false (by omega)] at hq; simp at hq; done)
              | (clear hq
                 go_wp2
                 go_roundw
                 case rel => exact ⟨j + 1, acc, by go_num, by omega, HB', Lib.hid (by have := Hal1.out; omega), Lib.hid (Grow.below ⟨_, Pv.out⟩ (below_new _ _)), (Hend.out _ ((below_new _ _).mono hsz)).1, (Hend.out _ ((below_new _ _).mono hsz)).2.1, (Hend.out _ ((below_new _ _).mono hsz)).2.2⟩
                 case measure => simp [intOf]; omega)
          · have HA' := Lib.hid (HA.out rfl)
            clear HA HB
            rcases hway with ⟨rfl, hend⟩ | ⟨t', ⟨ht1, ht2⟩, hin, f0, ⟨rfl, hle, hdec⟩ | ⟨rfl, hgt, hdec⟩⟩ <;> rcases hway2 with htm | ⟨htm, rfl⟩ | ⟨htm, rfl⟩ <;> first
              | (exfalso; rw [decide_eq_false (by omega)] at hq; simp at hq; done)
              | (exfalso; simp at hq; omega)
              | (clear hq
                 go_wp2_with (at_builtin; first | refine wpList_append_part (c := Cod.ver) (wr.alloc (.cells #[.int .i64 yt, .string yv, .bool yg] 162)) rfl _ _ 98 (by rfl) (w1.heap.size + 1) 162 162 i0 (.agg #[.int .i64 0, .string ⟨#[]⟩, .bool false]) 32 Try.underlying98 hi hz0 hz1 hz2 rfl (by decide) (by decide) wr _ acc.length acc vc (by rfl) Pv.out rfl (below_new _ _) ⟨yt, yv, yg⟩ [] [.int .i64 yt, .string yv, .bool yg] rfl (Hrd.out _) (Mine.nil _ _) (wr.heap.size + 1) (by simp) (by rfl) (by simp [Value.oneCell']) Hroom.out hsz ?_ | refine wpList_append_part (c := Cod.ver) (wr.alloc (.cells #[.int .i64 yt, .string yv, .bool false] 162)) rfl _ _ 98 (by rfl) (w1.heap.size + 1) 162 162 i0 (.agg #[.int .i64 0, .string ⟨#[]⟩, .bool false]) 32 Try.underlying98 hi hz0 hz1 hz2 rfl (by decide) (by decide) wr _ acc.length acc vc (by rfl) Pv.out rfl (below_new _ _) ⟨yt, yv, false⟩ [] [.int .i64 yt, .string yv, .bool false] rfl (Hrd.out _) (Mine.nil _ _) (wr.heap.size + 1) (by simp) (by rfl) (by simp [Value.oneCell']) Hroom.out hsz ?_ | refine wpList_append_part (c := Cod.ver) (wr.alloc (.cells #[.int .i64 yt, .string yv, .bool true] 162)) rfl _ _ 98 (by rfl) (w1.heap.size + 1) 162 162 i0 (.agg #[.int .i64 0, .string ⟨#[]⟩, .bool false]) 32 Try.underlying98 hi hz0 hz1 hz2 rfl (by decide) (by decide) wr _ acc.length acc vc (by rfl) Pv.out rfl (below_new _ _) ⟨yt, yv, true⟩ [] [.int .i64 yt, .string yv, .bool true] rfl (Hrd.out _) (Mine.nil _ _) (wr.heap.size + 1) (by simp) (by rfl) (by simp [Value.oneCell']) Hroom.out hsz ?_)
                 intro g' cap' w3 hp3 hb3
                 have hk3 : Below (w1.heap.size + 1) wr w3 := ((below_new _ _).mono hsz).trans hb3
                 have He3 := Lib.hid (Hend.out _ hk3)
                 have Hp3 := Lib.hid hp3
                 clear hp3 hb3 hk3 Hend
                 go_wp2
                 go_roundw
                 case rel => exact ⟨j + 1, _, by go_num, by omega, HA', Lib.hid (by rw [List.length_append]; exact Hal1.out), Lib.hid (by unfold Grow; rw [List.length_append]; exact Hp3.out), He3.out.1, He3.out.2.1, He3.out.2.2⟩
                 case measure => simp [intOf]; omega)
        · have hjt2 : (m : Int) ≤ (j : Int) := by omega
          obtain rfl : j = m := by omega
          have Hk : Hid (acc = keepV fl x.Vers) := Lib.hid (by
            have := Hacc.out
            rw [List.drop_of_length_le (by have := Hm.out; omega), show keepV fl ([] : List VerD) = [] from rfl, List.append_nil] at this
            exact this)
          obtain ⟨pb, cb, rfl⟩ := Hg.out.form
          have hb0 : w1.heap.size < wr.heap.size := hsz
          have hbw : Below w.heap.size w wr := below_after hbi hb
          by_cases h0 : acc.length = 0
          · have h0I : (acc.length : Int) ≤ 0 := by omega
            have Hend : Hid (Grow Cod.cell wr w.heap.size 100 (.slice pa oL ca) (trimL fl (l.take (k + 1)))) := Lib.hid (by
              rw [Ht.out, show trimC fl x = [] from by unfold trimC; rw [← Hk.out, if_pos h0], List.append_nil]
              have := Pc.out.below hbi
              rw [← HoL.out] at this ⊢
              exact ⟨_, this⟩)
            clear Hk Hacc Hal Hg
            generalize acc.length = aL at *
            go_wp2
            go_roundw
            case rel => exact ⟨k + 1, by go_num, by omega, Hend, hbw⟩
            case measure => simp [intOf]; omega
          · have h0I : (0 : Int) < (acc.length : Int) := by omega
            obtain ⟨fv, rv, mv⟩ := Hg.out.own
            have Hx : Hid (Cod.cell.rd wr (lst [.string x.Key, .slice pb acc.length cb]) ⟨x.Key, acc⟩ fv) := Lib.hid (mk_cell (x := ⟨x.Key, acc⟩) rfl z0 rfl rv)
            have Hmv : Hid (Mine wr w1.heap.size fv) := Lib.hid (mv.mono (Nat.le_succ _))
            have Htc : Hid (trimL fl (l.take (k + 1)) = trimL fl (l.take k) ++ [⟨x.Key, acc⟩]) := Lib.hid (by
              rw [Ht.out, show trimC fl x = [⟨x.Key, acc⟩] from by unfold trimC; rw [← Hk.out, if_neg h0]])
            have Hroom : Hid ((oL + 1) * 40 ≤ room) := Lib.hid (by unfold room; omega)
            clear Hk Hacc Hal Hg rv mv Ht h0
            generalize acc.length = aL at *
            go_wp2_with (at_builtin; refine wpList_append_part (c := Cod.cell) wr rfl _ _ 26 (by rfl) w.heap.size 100 100 i1 (.agg #[.string ⟨#[]⟩, .slice none 0 0]) 40 Try.underlying26 hi1 hy0 hy1 hy2 rfl (by decide) (by decide) w1 _ oL (trimL fl (l.take k)) cells (by rfl) Pc.out HoL.out hbi ⟨x.Key, acc⟩ fv [.string x.Key, .slice pb aL cb] rfl Hx.out Hmv.out wr.heap.size rfl (by rfl) (by simp [Value.oneCell']) Hroom.out hbs ?_)
            intro g' cap' w3 hp3 hb3
            have Hp3 := Lib.hid hp3
            have hbw3 : Below w.heap.size w w3 := hbw.trans hb3
            clear hp3 hb3
            go_wp2
            go_roundw
            case rel => exact ⟨k + 1, by go_num, by omega, Lib.hid (by rw [Htc.out]; unfold Grow; rw [List.length_append, HoL.out]; exact Hp3.out), hbw3⟩
            case measure => simp [intOf]; omega
    · have hlt2 : (n : Int) ≤ (k : Int) := by omega
      obtain rfl : k = n := by omega
      obtain ⟨pa, ca, rfl⟩ := Hp.out.form
      go_wp2
      go_ret
      have h3 := Hp.out.own
      rw [show l.take k = l from List.take_of_length_le (by have := Hn.out; omega)] at h3 ⊢
      exact ⟨_, rfl, h3, hb⟩

end Go.Proofs.Ytccmnffehhaobaa
