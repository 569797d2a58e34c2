/- laws.toEntry, laws.toEntryS. Printed by mkdata2.py. -/
import Derived.Test.YtccmnffehhaobaaData2
import Derived.Test.YtccmnffehhaobaaToRec
namespace Go.Proofs.Ytccmnffehhaobaa
open Go.RowKit

/-- What toEntry gives. -/
def ToEntry (x : EntryD) (base : Nat) (e : Ending) (w' : World) : Prop :=
  ∃ pRecReads' cRecReads' pRecWrites' cRecWrites' f, e = .returned (.agg #[.int .i64 x.Term, .int .i64 x.Rec.Kind, .int .i64 x.Rec.Txn, .int .i64 x.Rec.Time, .int .i64 x.Rec.Lead, .slice pRecReads' x.Rec.Reads.length cRecReads', .slice pRecWrites' x.Rec.Writes.length cRecWrites', .bool x.Rec.Yes]) ∧ Cod.entry.rd w' (lst [.int .i64 x.Term, .int .i64 x.Rec.Kind, .int .i64 x.Rec.Txn, .int .i64 x.Rec.Time, .int .i64 x.Rec.Lead, .slice pRecReads' x.Rec.Reads.length cRecReads', .slice pRecWrites' x.Rec.Writes.length cRecWrites', .bool x.Rec.Yes]) x f ∧ Mine w' base f


set_option maxRecDepth 100000 in
set_option maxHeartbeats 1600000 in
/-- laws.toEntry -/
theorem toEntry_d (x : EntryD) (zTerm : I64 x.Term) (z0 : I64 x.Rec.Kind) (z1 : I64 x.Rec.Txn) (z2 : I64 x.Rec.Time) (z3 : I64 x.Rec.Lead) (lReads : x.Rec.Reads.length ≤ 1048576) (lWrites : costWriteS x.Rec.Writes ≤ 1048576) (w : World) (uRecReads : Value) (rRecReads : Rd Cod.str w uRecReads x.Rec.Reads) (uRecWrites : Value) (rRecWrites : Rd Cod.write w uRecWrites x.Rec.Writes) :
    Calls Try.prog 261 #[.agg #[.int .i64 x.Term, .int .i64 x.Rec.Kind, .int .i64 x.Rec.Txn, .int .i64 x.Rec.Time, .int .i64 x.Rec.Lead, uRecReads, uRecWrites, .bool x.Rec.Yes]] w fun e w' => ToEntry x w.heap.size e w' ∧ Below w.heap.size w w' := by
  have Hc := Lib.hid (fun (W : World) (k : Below w.heap.size w W) => toRec_d x.Rec z0 z1 z2 z3 lReads lWrites W uRecReads (rRecReads.below k) uRecWrites (rRecWrites.below k))
  unfold ToEntry
  unfold ToRec at Hc
  obtain ⟨term, ⟨a, b, c, d, rs, ws, y⟩⟩ := x
  dsimp only at *
  obtain ⟨pr, cr, rfl, -⟩ := rRecReads.form
  obtain ⟨pw, cw, rfl, -⟩ := rRecWrites.form
  clear rRecReads rRecWrites
  go_enter Try.func261, Try.ntmps261
  go_wp2_with fail
  refine (Hc.out _ (by (repeat (first | exact Below.refl _ _ | exact below_new _ _ | refine below_setCell ?_ (by first | (simp; done) | (simp; omega) | omega) | refine below_alloc _ ?_ | refine below_drewN ?_ _ | refine below_after (by assumption) ?_ | assumption)))).mono ?_
  rintro e w1 ⟨⟨pR, cR, pW, cW, f, rfl, hx, hm⟩, k1⟩
  have b1 : Below w.heap.size w w1 := below_after k1 (by (repeat (first | exact Below.refl _ _ | exact below_new _ _ | refine below_setCell ?_ (by first | (simp; done) | (simp; omega) | omega) | refine below_alloc _ ?_ | refine below_drewN ?_ _ | refine below_after (by assumption) ?_ | assumption)))
  have hx1 := bcell k1
  have q10 : w.heap.size < w1.heap.size := by have := k1.size; first | (simp at this; omega) | omega
  have q11 : w.heap.size + 1 < w1.heap.size := by have := k1.size; first | (simp at this; omega) | omega
  have q12 : w.heap.size + 2 < w1.heap.size := by have := k1.size; first | (simp at this; omega) | omega
  replace hm := hm.mono (base' := w.heap.size + 3) (by simp)
  have HX := Lib.hid hx
  have HM := Lib.hid hm
  clear hx hm
  go_wp2
  refine bodyPost_ret (v := .agg #[.int .i64 term, .int .i64 a, .int .i64 b, .int .i64 c, .int .i64 d, .slice pR rs.length cR, .slice pW ws.length cW, .bool y]) (by simp [results, Try.results261, go_sem, hx1.1, q10, q11, q12]) rfl ⟨⟨pR, cR, pW, cW, f, rfl, ?_, ?_⟩, ?_⟩
  · refine ⟨[], f, rfl, ⟨rfl, zTerm, rfl⟩, Cod.recd.ext (g := lst [.int .i64 a, .int .i64 b, .int .i64 c, .int .i64 d, .slice pR rs.length cR, .slice pW ws.length cW, .bool y]) (fun j _ => ?_) (Cod.recd.frame (w := w1) (fun bb hbb => ?_) HX.out)⟩
    · show (lst _) j = (lst _) (1 + j)
      rw [Nat.add_comm]
      rfl
    · refine Keep.block (w := w1) (B := w.heap.size + 3) ?_ bb (HM.out.low bb hbb) (Cod.recd.old HX.out bb hbb)
      (repeat (first | (with_reducible exact Keep.refl _ _) | (with_reducible refine keep_set ?_ (by first | (simp; done) | (simp; omega) | omega)) | (with_reducible refine keep_alloc _ ?_) | (with_reducible refine keep_drewN ?_ _) | (with_reducible assumption) | (with_reducible refine keep_below (by assumption) ?_)))
  · exact (HM.out.keep (B := w.heap.size + 3) (Nat.le_refl _) (Cod.recd.old HX.out) (by (repeat (first | (with_reducible exact Keep.refl _ _) | (with_reducible refine keep_set ?_ (by first | (simp; done) | (simp; omega) | omega)) | (with_reducible refine keep_alloc _ ?_) | (with_reducible refine keep_drewN ?_ _) | (with_reducible assumption) | (with_reducible refine keep_below (by assumption) ?_))))).mono (by omega)
  · (repeat (first | (with_reducible exact Below.refl _ _) | (with_reducible refine below_setCell ?_ (by first | (simp; done) | (simp; omega) | omega)) | (with_reducible refine below_alloc _ ?_) | (with_reducible refine below_drewN ?_ _) | (with_reducible assumption) | (with_reducible refine below_after (by assumption) ?_)))

theorem Try_info_entry : (Try.prog.info? 154).map (fun i => (i.zero, i.size, i.bytes)) = some (some (.agg #[.int .i64 0, .int .i64 0, .int .i64 0, .int .i64 0, .int .i64 0, .slice none 0 0, .slice none 0 0, .bool false]), 8, 96) := by kernel_rfl

set_option maxRecDepth 100000 in
set_option maxHeartbeats 800000 in
/-- laws.toEntryS -/
theorem toEntryS_any (v : Value) (l : List EntryD) (hl : costEntryS l ≤ 1048576) (w : World) (h : Rd Cod.entry w v l) :
    Calls Try.prog 242 #[v] w fun e w' => ∃ v', e = .returned v' ∧ Own Cod.entry w' w.heap.size v' l ∧ Below w.heap.size w w' := by
  obtain ⟨i0, hi, hz0, hz1, hz2⟩ := info_parts Try_info_entry
  obtain ⟨p, c, rfl, hlc, hcm, r⟩ := h.form
  have R := Lib.hid r
  clear r h hlc hcm
  have Hc := Lib.hid hl
  obtain ⟨n, hn⟩ : ∃ n : Nat, l.length = n := ⟨_, rfl⟩
  have Hn := Lib.hid hn
  have hnb : (n : Int) ≤ 1048576 := by unfold costEntryS at hl; omega
  rw [hn]
  clear hn hl
  have hb16 : i0.bytes * n ≤ 281474976710656 := by rw [hz2]; omega
  go_enter Try.func242, Try.ntmps242
  go_wp2_with (refine wpList_make_full w rfl _ _ 82 (by rfl) w.heap.size 154 i0 (.agg #[.int .i64 0, .int .i64 0, .int .i64 0, .int .i64 0, .int .i64 0, .slice none 0 0, .slice none 0 0, .bool false]) 8 Try.underlying82 hi hz0 hz1 .i64 .i64 (n : Int) (n : Int) n (by rfl) (by rfl) rfl rfl hb16 (by unfold maxLen; omega) (Nat.le_refl _) ?_)
  intro w1 hown1 hg1
  have P1 := Lib.hid (part_start (c := Cod.entry) (show w1.ownsRow w.heap.size 154 Cod.entry.size (.slice (some ⟨w.heap.size, 0, none⟩) n n) n _ from hown1))
  have hb1 : Below w.heap.size w w1 := Below.grown (Below.refl _ _) hg1 (Nat.le_refl _) (by simp)
  clear hown1 hg1 hb16 hi hz0 hz1 hz2
  go_wp2
  go_loopw [4] (fun i wr => ∃ k : Nat, i = .int .i64 (k : Int) ∧ k ≤ n ∧ Hid (Part Cod.entry wr w.heap.size 154 (.slice (some ⟨w.heap.size, 0, none⟩) n n) n (l.take k)) ∧ Below w.heap.size w wr) (fun i _ => n - (intOf i).toNat)
  case atStart => exact ⟨0, rfl, Nat.zero_le _, Lib.hid ⟨_, P1.out⟩, hb1⟩
  case round =>
    obtain ⟨k, rfl, hk, Hp, hb⟩ := hrel
    by_cases hlt : k < n
    · have hlt2 : (k : Int) < (n : Int) := by omega
      have hkl : k < l.length := by have := Hn.out; omega
      have hktl : (l.take k).length = k := by rw [List.length_take]; omega
      obtain ⟨g, o, rfl, hg, hc⟩ := R.out (by have := Hn.out; omega)
      have at0 := (hc k hkl).below hg hb
      have Ht := Lib.hid (List.take_succ_eq_append_getElem hkl)
      have hcst := sumC_get costEntry l k hkl
      obtain ⟨x, es⟩ : ∃ x, l[k] = x := ⟨_, rfl⟩
      rw [es] at at0 Ht hcst
      have Hl : Hid (costEntry x ≤ 1048576) := Lib.hid (by have := Hc.out; unfold costEntryS at this; omega)
      clear hc es hkl hcst
      obtain ⟨d0, d1, d2, d3, d4, ⟨uRecReads, d5, rRecReads⟩, ⟨uRecWrites, d6, rRecWrites⟩, d7, zTerm, zRecKind, zRecTxn, zRecTime, zRecLead⟩ := at_entry at0
      rw [show o + k * Cod.entry.size = o + k * 8 from rfl] at *
      clear at0
      have lRecReads : x.Rec.Reads.length ≤ 1048576 := by have := Hl.out; unfold costEntry costStringS at this; omega
      have lRecWrites : costWriteS x.Rec.Writes ≤ 1048576 := by have := Hl.out; unfold costEntry at this; omega
      obtain ⟨cells, Pc⟩ := Hp.out
      have Hx := Lib.hid (toEntry_d x zTerm zRecKind zRecTxn zRecTime zRecLead lRecReads lRecWrites)
      have Pc := Lib.hid Pc
      clear Hp
      go_wp2_with fail
      refine (Hx.out _ _ rRecReads _ rRecWrites).mono ?_
      rintro e w1 ⟨⟨pRecReads', cRecReads', pRecWrites', cRecWrites', f, rfl, hx, hm⟩, k1⟩
      have hb2 := below_after k1 hb
      have hq := hb2.size
      have Pd := Pc.out.below k1
      obtain ⟨fs, hown, _⟩ := Pd
      replace hown : w1.ownsRow w.heap.size 154 8 (.slice (some ⟨w.heap.size, 0, none⟩) n n) n cells := hown
      have hlen : cells.length = n * 8 := hown.1
      obtain ⟨old0, g0⟩ : ∃ u, w1.cell? ⟨w.heap.size, k * 8, none⟩ = some u := ⟨_, by rw [hown.cellAt _ (by omega), List.getElem?_eq_getElem (by omega)]⟩
      have y0 := hown.frozenAt (k * 8)
      obtain ⟨old1, g1⟩ : ∃ u, w1.cell? ⟨w.heap.size, k * 8 + 1, none⟩ = some u := ⟨_, by rw [hown.cellAt _ (by omega), List.getElem?_eq_getElem (by omega)]⟩
      have y1 := hown.frozenAt (k * 8 + 1)
      obtain ⟨old2, g2⟩ : ∃ u, w1.cell? ⟨w.heap.size, k * 8 + 2, none⟩ = some u := ⟨_, by rw [hown.cellAt _ (by omega), List.getElem?_eq_getElem (by omega)]⟩
      have y2 := hown.frozenAt (k * 8 + 2)
      obtain ⟨old3, g3⟩ : ∃ u, w1.cell? ⟨w.heap.size, k * 8 + 3, none⟩ = some u := ⟨_, by rw [hown.cellAt _ (by omega), List.getElem?_eq_getElem (by omega)]⟩
      have y3 := hown.frozenAt (k * 8 + 3)
      obtain ⟨old4, g4⟩ : ∃ u, w1.cell? ⟨w.heap.size, k * 8 + 4, none⟩ = some u := ⟨_, by rw [hown.cellAt _ (by omega), List.getElem?_eq_getElem (by omega)]⟩
      have y4 := hown.frozenAt (k * 8 + 4)
      obtain ⟨old5, g5⟩ : ∃ u, w1.cell? ⟨w.heap.size, k * 8 + 5, none⟩ = some u := ⟨_, by rw [hown.cellAt _ (by omega), List.getElem?_eq_getElem (by omega)]⟩
      have y5 := hown.frozenAt (k * 8 + 5)
      obtain ⟨old6, g6⟩ : ∃ u, w1.cell? ⟨w.heap.size, k * 8 + 6, none⟩ = some u := ⟨_, by rw [hown.cellAt _ (by omega), List.getElem?_eq_getElem (by omega)]⟩
      have y6 := hown.frozenAt (k * 8 + 6)
      obtain ⟨old7, g7⟩ : ∃ u, w1.cell? ⟨w.heap.size, k * 8 + 7, none⟩ = some u := ⟨_, by rw [hown.cellAt _ (by omega), List.getElem?_eq_getElem (by omega)]⟩
      have y7 := hown.frozenAt (k * 8 + 7)
      have Hset := Lib.hid (Pc.out.set k1 (vs := [.int .i64 x.Term, .int .i64 x.Rec.Kind, .int .i64 x.Rec.Txn, .int .i64 x.Rec.Time, .int .i64 x.Rec.Lead, .slice pRecReads' x.Rec.Reads.length cRecReads', .slice pRecWrites' x.Rec.Writes.length cRecWrites', .bool x.Rec.Yes]) rfl hx hm (by rw [hktl]; exact hlt))
      rw [hktl, ← Ht.out] at Hset
      clear hown Pc hktl Ht hx hm hlen
      go_wp2
      go_roundw
      case rel => exact ⟨k + 1, by go_num, by omega, Hset, below_setCell (below_setCell (below_setCell (below_setCell (below_setCell (below_setCell (below_setCell (below_setCell (hb2) (Nat.le_refl _)) (Nat.le_refl _)) (Nat.le_refl _)) (Nat.le_refl _)) (Nat.le_refl _)) (Nat.le_refl _)) (Nat.le_refl _)) (Nat.le_refl _)⟩
      case measure => simp [intOf]; omega
    · have hlt2 : (n : Int) ≤ (k : Int) := by omega
      obtain rfl : k = n := by omega
      go_wp2
      go_ret
      have hf : l.take k = l := List.take_of_length_le (by have := Hn.out; omega)
      have h3 := Hp.out
      rw [hf] at h3
      exact ⟨_, rfl, h3.own Hn.out, hb⟩

end Go.Proofs.Ytccmnffehhaobaa
