/- What stands at a time, all of it: both. Printed by mkcellsat.py. -/
import Derived.Test.YtccmnffehhaobaaAt3
import Derived.Test.YtccmnffehhaobaaTrim1
namespace Go.Proofs.Ytccmnffehhaobaa
open Go.RowKit

theorem Try_infoA_write : (Try.prog.info? 109).map (fun i => (i.zero, i.size, i.bytes)) = some (some (.agg #[.string ⟨#[]⟩, .string ⟨#[]⟩, .bool false]), 3, 40) := by kernel_rfl

def atC (t : Int) (c : CellD) : List WriteD := if hasOf (verAt t c.Vers) = true then [⟨c.Key, valOf (verAt t c.Vers), false⟩] else []
def atL (t : Int) : List CellD → List WriteD
  | [] => []
  | c :: l => atC t c ++ atL t l
theorem atL_take (t : Int) (l : List CellD) (k : Nat) (h : k < l.length) : atL t (l.take (k + 1)) = atL t (l.take k) ++ atC t l[k] := by
  have happ : ∀ a b : List CellD, atL t (a ++ b) = atL t a ++ atL t b := by
    intro a b
    induction a with
    | nil => rfl
    | cons x a ih => show atC t x ++ atL t (a ++ b) = _; rw [ih]; simp [atL]
  rw [List.take_succ_eq_append_getElem h, happ]
  simp [atL]
theorem valOf_size (t : Int) (vs : List VerD) : (valOf (verAt t vs)).size ≤ costVerS vs := by
  unfold verAt
  cases hf : vs.reverse.find? fun v => decide (v.Time ≤ t) with
  | none => exact Nat.zero_le _
  | some v =>
    have hm : v ∈ vs := List.mem_reverse.1 (List.mem_of_find?_eq_some hf)
    obtain ⟨k, hk, rfl⟩ := List.getElem_of_mem hm
    have := sumC_get costVer vs k hk
    unfold costVerS
    have h2 : costVer vs[k] = vs[k].Val.size := rfl
    show vs[k].Val.size ≤ _
    omega
theorem atL_cost (t : Int) (l : List CellD) : costWriteS (atL t l) ≤ costCellS l ∧ (atL t l).length ≤ l.length := by
  have h1 : (atL t l).length ≤ l.length ∧ sumC costWrite (atL t l) ≤ sumC costCell l := by
    induction l with
    | nil => exact ⟨Nat.le_refl _, Nat.le_refl _⟩
    | cons c l ih =>
      unfold atL atC
      split
      · refine ⟨by simp; omega, ?_⟩
        show costWrite ⟨c.Key, valOf (verAt t c.Vers), false⟩ + sumC costWrite (atL t l) ≤ costCell c + sumC costCell l
        have h2 : costWrite ⟨c.Key, valOf (verAt t c.Vers), false⟩ ≤ costCell c := by
          have := valOf_size t c.Vers
          unfold costWrite costCell
          simp only
          omega
        omega
      · refine ⟨by simp; omega, ?_⟩
        show _ ≤ costCell c + sumC costCell l
        rw [List.nil_append]; omega
  unfold costWriteS costCellS
  omega

set_option maxRecDepth 100000 in
set_option maxHeartbeats 1600000 in
/-- spec.l3All -/
theorem l3All_any (v : Value) (l : List CellD) (t : Int) (hl : costCellS l ≤ 1048576) (w : World) (h : Rd Cod.cell w v l) :
    Calls Try.prog 85 #[v, .int .i64 t] w fun e w' => ∃ v', e = .returned v' ∧ Own Cod.write w' w.heap.size v' (atL t l) ∧ Below w.heap.size w w' := by
  obtain ⟨i1, hi1, hy0, hy1, hy2⟩ := info_parts Try_infoA_write
  obtain ⟨p, c, rfl, _, _, r⟩ := h.form
  have R := Lib.hid r
  have Hl := Lib.hid hl
  clear r h
  obtain ⟨n, hn⟩ : ∃ n : Nat, l.length = n := ⟨_, rfl⟩
  have Hn := Lib.hid hn
  have hnb : (n : Int) ≤ 1048576 := by unfold costCellS at hl; omega
  rw [hn]
  clear hn hl
  go_enter Try.func85, Try.ntmps85
  go_wp2
  go_loopw [5, 12] (fun a i wr => ∃ k : Nat, i = .int .i64 (k : Int) ∧ k ≤ n ∧ Hid (Grow Cod.write wr w.heap.size 109 a (atL t (l.take k))) ∧ Below w.heap.size w wr) (fun _ i _ => n - (intOf i).toNat)
  case atStart => exact ⟨0, rfl, Nat.zero_le _, Lib.hid (grow_nil _ _ _ _), Below.refl _ _⟩
  case round =>
    obtain ⟨k, rfl, hk, Hp, hb⟩ := hrel
    have hbs := hb.size
    by_cases hlt : k < n
    · have hlt2 : (k : Int) < (n : Int) := by omega
      have hkl : k < l.length := by have := Hn.out; omega
      obtain ⟨g, o, rfl, hg, hc⟩ := R.out (by have := Hn.out; omega)
      have at0 := (hc k hkl).below hg hb
      have hvl := vers_le Hl.out hkl
      have Ht := Lib.hid (atL_take t l k hkl)
      have Hlen := Lib.hid (atL_cost t (l.take k)).2
      have hzv : (valOf (verAt t l[k].Vers)).size ≤ maxLen := by
        have h1 := valOf_size t l[k].Vers
        have h2 := sumC_get costCell l k hkl
        have h3 := Hl.out
        have h4 : costVerS l[k].Vers ≤ costCell l[k] := by unfold costCell; omega
        unfold costCellS at h3
        unfold maxLen
        omega
      obtain ⟨x, es⟩ : ∃ x, l[k] = x := ⟨_, rfl⟩
      rw [es] at at0 Ht hvl hzv
      obtain ⟨d0, ⟨u, d1, ru⟩, z0⟩ := at_cell at0
      obtain ⟨pu, cu, rfl, _, _, _⟩ := ru.form
      rw [show o + k * Cod.cell.size = o + k * 2 from rfl] at *
      clear hc es hkl at0
      have Hzv := Lib.hid hzv
      have HV := Lib.hid (fun (W : World) r => l3Ver_any x (.slice pu x.Vers.length cu) t hvl W r)
      clear hzv
      obtain ⟨q, hq⟩ : ∃ q, verAt t x.Vers = q := ⟨_, rfl⟩
      have HT : Hid (atC t x = if hasOf q = true then [⟨x.Key, valOf q, false⟩] else []) := Lib.hid (by unfold atC; rw [hq])
      rw [hq] at HV Hzv
      clear hq
      obtain ⟨pa, ca, rfl⟩ := Hp.out.form
      generalize hoL : (atL t (l.take k)).length = oL at *
      have HoL := Lib.hid hoL
      clear hoL
      have hoLk : oL ≤ k := by have := HoL.out; have := Hlen.out; rw [List.length_take] at this; omega
      clear Hlen
      obtain ⟨cells, Pc⟩ := Hp.out
      rw [HoL.out] at Pc
      have Pc := Lib.hid Pc
      clear Hp
      have Hroom : Hid ((oL + 1) * 40 ≤ room) := Lib.hid (by unfold room; omega)
      have HQ : Hid (valOf q = (q.getD verZ).Val ∧ hasOf q = (q.isSome && !(q.getD verZ).Gone)) := Lib.hid (by rw [valOf_getD, hasOf_getD]; exact ⟨rfl, rfl⟩)
      obtain ⟨z, hz⟩ : ∃ z, q.getD verZ = z := ⟨_, rfl⟩
      obtain ⟨zb, hzb⟩ : ∃ zb, q.isSome = zb := ⟨_, rfl⟩
      rw [hz, hzb] at HQ HV
      clear hz hzb
      obtain ⟨zt, zv, zg⟩ := z
      obtain ⟨s, hs⟩ : ∃ s, valOf q = s := ⟨_, rfl⟩
      obtain rfl : zv = s := by rw [← hs, HQ.out.1]
      rw [hs] at HT Hzv
      have hbq : hasOf q = (zb && !zg) := HQ.out.2
      rw [hbq] at HT
      clear hs hbq HQ
      go_wp2_with fail
      refine (HV.out _ (ru.below (by (repeat (first | (with_reducible exact Below.refl _ _) | (with_reducible refine below_setCell ?_ (by first | (simp; done) | (simp; omega) | omega)) | (with_reducible refine below_alloc _ ?_) | (with_reducible refine below_drewN ?_ _) | (with_reducible assumption) | (with_reducible refine below_after (by assumption) ?_)))))).mono ?_
      unfold verV
      rintro e w2 ⟨rfl, k2⟩
      have Wp : Hid (∃ W, W = w2.alloc (.cells #[.int .i64 zt, .string zv, .bool zg] 162)) := Lib.hid ⟨_, rfl⟩
      have b2 : Below w.heap.size w w2 := below_after k2 (by (repeat (first | (with_reducible exact Below.refl _ _) | (with_reducible refine below_setCell ?_ (by first | (simp; done) | (simp; omega) | omega)) | (with_reducible refine below_alloc _ ?_) | (with_reducible refine below_drewN ?_ _) | (with_reducible assumption) | (with_reducible refine below_after (by assumption) ?_))))
      have m2 : Below wr.heap.size wr w2 := below_after k2 (by (repeat (first | (with_reducible exact Below.refl _ _) | (with_reducible refine below_setCell ?_ (by first | (simp; done) | (simp; omega) | omega)) | (with_reducible refine below_alloc _ ?_) | (with_reducible refine below_drewN ?_ _) | (with_reducible assumption) | (with_reducible refine below_after (by assumption) ?_))))
      have hq2 : wr.heap.size < w2.heap.size := by have := k2.size; simp at this; omega
      have c02 : w2.cell? ⟨wr.heap.size, 0, none⟩ = some (.string x.Key) := by rw [(bcell k2).1 _ _ (by simp)]; simp [go_sem]
      clear k2 Wp
      have hcase : (zb = true ∧ zg = false) ∨ (zb && !zg) = false := by cases zb <;> cases zg <;> simp
      rcases hcase with ⟨rfl, rfl⟩ | hno
      · have Htc : Hid (atL t (l.take (k + 1)) = atL t (l.take k) ++ [⟨x.Key, zv, false⟩]) := Lib.hid (by rw [Ht.out, HT.out]; rfl)
        clear HT Ht
        go_wp2_with (at_builtin; refine wpList_append_part (c := Cod.write) (w2.alloc (.cells #[.int .i64 zt, .string zv, .bool false] 162)) rfl _ _ 34 (by rfl) w.heap.size 109 109 i1 (.agg #[.string ⟨#[]⟩, .string ⟨#[]⟩, .bool false]) 40 Try.underlying34 hi1 hy0 hy1 hy2 rfl (by decide) (by decide) wr _ oL (atL t (l.take k)) cells (by rfl) Pc.out HoL.out (below_after (below_new _ _) m2) ⟨x.Key, zv, false⟩ [] [.string x.Key, .string zv, .bool false] rfl (mk_write rfl z0 rfl Hzv.out rfl) (Mine.nil _ _) (w2.heap.size + 1) (by simp) (by rfl) (by simp [Value.oneCell']) Hroom.out hbs ?_)
        intro g' cap' w3 hp3 hb3
        have Hp3 := Lib.hid hp3
        have hbw3 : Below w.heap.size w w3 := (below_alloc _ b2).trans hb3
        clear hp3 hb3
        go_wp2
        go_roundw
        case rel => exact ⟨k + 1, by go_num, by omega, Lib.hid (by rw [Htc.out]; unfold Grow; rw [List.length_append, HoL.out]; exact Hp3.out), hbw3⟩
        case measure => simp [intOf]; omega
      · have Htc : Hid (Grow Cod.write w2 w.heap.size 109 (.slice pa oL ca) (atL t (l.take (k + 1)))) := Lib.hid (by
          rw [Ht.out, HT.out]
          rw [if_neg (by rw [hno]; simp), List.append_nil]
          have := Pc.out.below m2
          rw [← HoL.out] at this ⊢
          exact ⟨_, this⟩)
        clear HT Ht
        cases zb <;> cases zg <;> first
          | (exfalso; simp at hno; done)
          | (clear hno
             go_wp2
             go_roundw
             case rel => exact ⟨k + 1, by go_num, by omega, Lib.hid (Htc.out.below (by (repeat (first | (with_reducible exact Below.refl _ _) | (with_reducible refine below_setCell ?_ (by first | (simp; done) | (simp; omega) | omega)) | (with_reducible refine below_alloc _ ?_) | (with_reducible refine below_drewN ?_ _) | (with_reducible assumption) | (with_reducible refine below_after (by assumption) ?_))))), by (repeat (first | (with_reducible exact Below.refl _ _) | (with_reducible refine below_setCell ?_ (by first | (simp; done) | (simp; omega) | omega)) | (with_reducible refine below_alloc _ ?_) | (with_reducible refine below_drewN ?_ _) | (with_reducible assumption) | (with_reducible refine below_after (by assumption) ?_)))⟩
             case measure => simp [intOf]; omega)
    · have hlt2 : (n : Int) ≤ (k : Int) := by omega
      obtain rfl : k = n := by omega
      obtain ⟨pa, ca, rfl⟩ := Hp.out.form
      go_wp2
      go_ret
      have h3 := Hp.out.own
      rw [show l.take k = l from List.take_of_length_le (by have := Hn.out; omega)] at h3 ⊢
      exact ⟨_, rfl, h3, hb⟩

set_option maxRecDepth 100000 in
set_option maxHeartbeats 1600000 in
/-- impl.cellsAt -/
theorem cellsAt_any (v : Value) (l : List CellD) (t : Int) (hl : costCellS l ≤ 1048576) (hgc : GoodC l) (w : World) (h : Rd Cod.cell w v l) :
    Calls Try.prog 86 #[v, .int .i64 t] w fun e w' => ∃ v', e = .returned v' ∧ Own Cod.write w' w.heap.size v' (atL t l) ∧ Below w.heap.size w w' := by
  obtain ⟨i1, hi1, hy0, hy1, hy2⟩ := info_parts Try_infoA_write
  obtain ⟨p, c, rfl, _, _, r⟩ := h.form
  have R := Lib.hid r
  have Hl := Lib.hid hl
  have Hgc := Lib.hid hgc
  clear r h hgc
  obtain ⟨n, hn⟩ : ∃ n : Nat, l.length = n := ⟨_, rfl⟩
  have Hn := Lib.hid hn
  have hnb : (n : Int) ≤ 1048576 := by unfold costCellS at hl; omega
  rw [hn]
  clear hn hl
  go_enter Try.func86, Try.ntmps86
  go_wp2
  go_loopw [5, 13] (fun a i wr => ∃ k : Nat, i = .int .i64 (k : Int) ∧ k ≤ n ∧ Hid (Grow Cod.write wr w.heap.size 109 a (atL t (l.take k))) ∧ Below w.heap.size w wr) (fun _ i _ => n - (intOf i).toNat)
  case atStart => exact ⟨0, rfl, Nat.zero_le _, Lib.hid ⟨_, part_start (World.ownsRow_made _ _ _ (Nat.le_refl _) (by simp) rfl)⟩, below_new _ _⟩
  case round =>
    obtain ⟨k, rfl, hk, Hp, hb⟩ := hrel
    have hbs := hb.size
    by_cases hlt : k < n
    · have hlt2 : (k : Int) < (n : Int) := by omega
      have hkl : k < l.length := by have := Hn.out; omega
      obtain ⟨g, o, rfl, hg, hc⟩ := R.out (by have := Hn.out; omega)
      have at0 := (hc k hkl).below hg hb
      have hvl := vers_le Hl.out hkl
      have hv0 : 0 < l[k].Vers.length := by have := (inB_iff.1 (Hgc.out.2.1 k hkl hkl).1).1; omega
      have Ht := Lib.hid (atL_take t l k hkl)
      have Hlen := Lib.hid (atL_cost t (l.take k)).2
      have hzv : (valOf (verAt t l[k].Vers)).size ≤ maxLen := by
        have h1 := valOf_size t l[k].Vers
        have h2 := sumC_get costCell l k hkl
        have h3 := Hl.out
        have h4 : costVerS l[k].Vers ≤ costCell l[k] := by unfold costCell; omega
        unfold costCellS at h3
        unfold maxLen
        omega
      obtain ⟨x, es⟩ : ∃ x, l[k] = x := ⟨_, rfl⟩
      rw [es] at at0 Ht hvl hzv hv0
      obtain ⟨d0, ⟨u, d1, ru⟩, z0⟩ := at_cell at0
      obtain ⟨pu, cu, rfl, _, _, _⟩ := ru.form
      rw [show o + k * Cod.cell.size = o + k * 2 from rfl] at *
      clear hc es hkl at0
      have Hzv := Lib.hid hzv
      have HV := Lib.hid (fun (W : World) r => at_any x (.slice pu x.Vers.length cu) t hvl hv0 W r)
      clear hzv hv0
      obtain ⟨q, hq⟩ : ∃ q, verAt t x.Vers = q := ⟨_, rfl⟩
      have HT : Hid (atC t x = if hasOf q = true then [⟨x.Key, valOf q, false⟩] else []) := Lib.hid (by unfold atC; rw [hq])
      rw [hq] at HV Hzv
      clear hq
      obtain ⟨pa, ca, rfl⟩ := Hp.out.form
      generalize hoL : (atL t (l.take k)).length = oL at *
      have HoL := Lib.hid hoL
      clear hoL
      have hoLk : oL ≤ k := by have := HoL.out; have := Hlen.out; rw [List.length_take] at this; omega
      clear Hlen
      obtain ⟨cells, Pc⟩ := Hp.out
      rw [HoL.out] at Pc
      have Pc := Lib.hid Pc
      clear Hp
      have Hroom : Hid ((oL + 1) * 40 ≤ room) := Lib.hid (by unfold room; omega)
      obtain ⟨s, hs⟩ : ∃ s, valOf q = s := ⟨_, rfl⟩
      obtain ⟨zb, hzb⟩ : ∃ zb, hasOf q = zb := ⟨_, rfl⟩
      rw [hs, hzb] at HV HT
      rw [hs] at Hzv
      clear hs hzb
      go_wp2_with fail
      refine (HV.out _ (ru.below (by (repeat (first | (with_reducible exact Below.refl _ _) | (with_reducible refine below_setCell ?_ (by first | (simp; done) | (simp; omega) | omega)) | (with_reducible refine below_alloc _ ?_) | (with_reducible refine below_drewN ?_ _) | (with_reducible assumption) | (with_reducible refine below_after (by assumption) ?_)))))).mono ?_
      rintro e w2 ⟨rfl, k2⟩
      have b2 : Below w.heap.size w w2 := below_after k2 (by (repeat (first | (with_reducible exact Below.refl _ _) | (with_reducible refine below_setCell ?_ (by first | (simp; done) | (simp; omega) | omega)) | (with_reducible refine below_alloc _ ?_) | (with_reducible refine below_drewN ?_ _) | (with_reducible assumption) | (with_reducible refine below_after (by assumption) ?_))))
      have m2 : Below wr.heap.size wr w2 := below_after k2 (by (repeat (first | (with_reducible exact Below.refl _ _) | (with_reducible refine below_setCell ?_ (by first | (simp; done) | (simp; omega) | omega)) | (with_reducible refine below_alloc _ ?_) | (with_reducible refine below_drewN ?_ _) | (with_reducible assumption) | (with_reducible refine below_after (by assumption) ?_))))
      have hq2 : wr.heap.size < w2.heap.size := by have := k2.size; simp at this; omega
      have c02 : w2.cell? ⟨wr.heap.size, 0, none⟩ = some (.string x.Key) := by rw [(bcell k2).1 _ _ (by simp)]; simp [go_sem]
      clear k2
      have hcase : zb = true ∨ zb = false := by cases zb <;> simp
      rcases hcase with rfl | rfl
      · have Htc : Hid (atL t (l.take (k + 1)) = atL t (l.take k) ++ [⟨x.Key, s, false⟩]) := Lib.hid (by rw [Ht.out, HT.out]; rfl)
        clear HT Ht
        go_wp2_with (at_builtin; refine wpList_append_part (c := Cod.write) w2 rfl _ _ 34 (by rfl) w.heap.size 109 109 i1 (.agg #[.string ⟨#[]⟩, .string ⟨#[]⟩, .bool false]) 40 Try.underlying34 hi1 hy0 hy1 hy2 rfl (by decide) (by decide) wr _ oL (atL t (l.take k)) cells (by rfl) Pc.out HoL.out m2 ⟨x.Key, s, false⟩ [] [.string x.Key, .string s, .bool false] rfl (mk_write rfl z0 rfl Hzv.out rfl) (Mine.nil _ _) w2.heap.size rfl (by rfl) (by simp [Value.oneCell']) Hroom.out hbs ?_)
        intro g' cap' w3 hp3 hb3
        have Hp3 := Lib.hid hp3
        have hbw3 : Below w.heap.size w w3 := b2.trans hb3
        clear hp3 hb3
        go_wp2
        go_roundw
        case rel => exact ⟨k + 1, by go_num, by omega, Lib.hid (by rw [Htc.out]; unfold Grow; rw [List.length_append, HoL.out]; exact Hp3.out), hbw3⟩
        case measure => simp [intOf]; omega
      · have Htc : Hid (Grow Cod.write w2 w.heap.size 109 (.slice pa oL ca) (atL t (l.take (k + 1)))) := Lib.hid (by
          rw [Ht.out, HT.out]
          rw [if_neg (by simp), List.append_nil]
          have := Pc.out.below m2
          rw [← HoL.out] at this ⊢
          exact ⟨_, this⟩)
        clear HT Ht
        go_wp2
        go_roundw
        case rel => exact ⟨k + 1, by go_num, by omega, Htc, b2⟩
        case measure => simp [intOf]; omega
    · have hlt2 : (n : Int) ≤ (k : Int) := by omega
      obtain rfl : k = n := by omega
      obtain ⟨pa, ca, rfl⟩ := Hp.out.form
      go_wp2
      go_ret
      have h3 := Hp.out.own
      rw [show l.take k = l from List.take_of_length_le (by have := Hn.out; omega)] at h3 ⊢
      exact ⟨_, rfl, h3, hb⟩

end Go.Proofs.Ytccmnffehhaobaa
