/- impl.copyEntries. -/
import Derived.Test.YtogdbjalgledpaaCopyRec
import Derived.Test.YtogdbjalgledpaaRoom
import Derived.Deep.RegionWith
import Derived.Deep.DeepCutAuto
import Derived.Deep.RegionLaw
namespace Go.Proofs.Ytogdbjalgledpaa
open Go.RowKit

/-- What copyRec gives, inside an entry. -/
def EntRet (x : EntryD) (base : Nat) (e : Ending) (w' : World) : Prop :=
  ∃ pR cR pW cW f, e = .returned (.agg #[.int .i64 x.Rec.Kind, .int .i64 x.Rec.Txn, .int .i64 x.Rec.Time, .int .i64 x.Rec.Lead, .slice pR x.Rec.Reads.length cR, .slice pW x.Rec.Writes.length cW, .bool x.Rec.Yes]) ∧ Cod.entry.rd w' (lst [.int .i64 x.Term, .int .i64 x.Rec.Kind, .int .i64 x.Rec.Txn, .int .i64 x.Rec.Time, .int .i64 x.Rec.Lead, .slice pR x.Rec.Reads.length cR, .slice pW x.Rec.Writes.length cW, .bool x.Rec.Yes]) x f ∧ Mine w' base f
theorem entRet_of {x : EntryD} (zTerm : I64 x.Term) {base : Nat} {e : Ending} {w' : World} (h : ToRec x.Rec base e w') : EntRet x base e w' := by
  obtain ⟨pR, cR, pW, cW, f, he, hx, hm⟩ := h
  refine ⟨pR, cR, pW, cW, f, he, ⟨[], f, rfl, ⟨rfl, zTerm, rfl⟩, Cod.recd.ext (fun j _ => ?_) hx⟩, hm⟩
  show (lst _) j = (lst _) (1 + j)
  rw [Nat.add_comm]
  rfl

set_option maxRecDepth 100000 in
set_option maxHeartbeats 3200000 in
/-- impl.copyEntries -/
theorem copyEntries_r (v : Value) (l : List EntryD) (hl : costEntryS l ≤ 1048576) (w : World) (h : Rd Cod.entry w v l) :
    Calls Try.prog 74 #[v] w fun e w' => ∃ v', e = .returned v' ∧ OwnR Cod.entry w' w.heap.size v' l ∧ Below w.heap.size w w' := by
  obtain ⟨i0, hi, hz0, hz1, hz2⟩ := info_parts Try_info_entry
  obtain ⟨p, c, rfl, hlc, hcm, r⟩ := h.form
  have R := Lib.hid r
  clear r h hlc hcm
  have Hc := Lib.hid hl
  obtain ⟨n, hn⟩ : ∃ n : Nat, l.length = n := ⟨_, rfl⟩
  have Hn := Lib.hid hn
  have hnb : (n : Int) ≤ 1048576 := by unfold costEntryS at hl; omega
  rw [hn]
  clear hn hl
  have hb16 : i0.bytes * n ≤ 281474976710656 := by rw [hz2]; omega
  go_enter Try.func74, Try.ntmps74
  go_wp2_with (refine wpList_make_full w rfl _ _ 56 (by rfl) w.heap.size 81 i0 (.agg #[.int .i64 0, .int .i64 0, .int .i64 0, .int .i64 0, .int .i64 0, .slice none 0 0, .slice none 0 0, .bool false]) 8 Try.underlying56 hi hz0 hz1 .i64 .i64 (n : Int) (n : Int) n (by rfl) (by rfl) rfl rfl hb16 (by unfold maxLen; omega) (Nat.le_refl _) ?_)
  intro w1 hown1 hg1
  have P1 := Lib.hid (part_start (c := Cod.entry) (show w1.ownsRow w.heap.size 81 Cod.entry.size (.slice (some ⟨w.heap.size, 0, none⟩) n n) n _ from hown1))
  have hb1 : Below w.heap.size w w1 := Below.grown (Below.refl _ _) hg1 (Nat.le_refl _) (by simp)
  clear hown1 hg1 hb16 hi hz0 hz1 hz2
  go_wp2
  go_loopw [11] (fun i wr => ∃ k : Nat, i = .int .i64 (k : Int) ∧ k ≤ n ∧ Hid (Part Cod.entry wr w.heap.size 81 (.slice (some ⟨w.heap.size, 0, none⟩) n n) n (l.take k)) ∧ Below w.heap.size w wr) (fun i _ => n - (intOf i).toNat)
  case atStart => exact ⟨0, rfl, Nat.zero_le _, Lib.hid ⟨_, P1.out⟩, hb1⟩
  case round =>
    obtain ⟨k, rfl, hk, Hp, hb⟩ := hrel
    by_cases hlt : k < n
    · have hlt2 : (k : Int) < (n : Int) := by omega
      have hkl : k < l.length := by have := Hn.out; omega
      have hktl : (l.take k).length = k := by rw [List.length_take]; omega
      obtain ⟨g, o, rfl, hg, hc⟩ := R.out (by have := Hn.out; omega)
      have at0 := (hc k hkl).below hg hb
      have Ht := Lib.hid (List.take_succ_eq_append_getElem hkl)
      have hcst := sumC_get costEntry l k hkl
      obtain ⟨x, es⟩ : ∃ x, l[k] = x := ⟨_, rfl⟩
      rw [es] at at0 Ht hcst
      have Hl : Hid (costEntry x ≤ 1048576) := Lib.hid (by have := Hc.out; unfold costEntryS at this; omega)
      clear hc es hkl hcst
      obtain ⟨d0, d1, d2, d3, d4, ⟨uRecReads, d5, rRecReads⟩, ⟨uRecWrites, d6, rRecWrites⟩, d7, zTerm, zRecKind, zRecTxn, zRecTime, zRecLead⟩ := at_entry at0
      rw [show o + k * Cod.entry.size = o + k * 8 from rfl] at *
      clear at0
      have lRecReads : x.Rec.Reads.length ≤ 1048576 := by have := Hl.out; unfold costEntry costStringS at this; omega
      have lRecWrites : x.Rec.Writes.length ≤ 1048576 := by have := Hl.out; unfold costEntry costWriteS at this; omega
      obtain ⟨cells, Pc⟩ := Hp.out
      have Pc := Lib.hid Pc
      have hbs := hb.size
      obtain ⟨pr, cr, rfl, -⟩ := rRecReads.form
      obtain ⟨pw, cw, rfl, -⟩ := rRecWrites.form
      have Hcp : Hid (∀ W, Below wr.heap.size wr W → Calls Try.prog 62 #[.agg #[.int .i64 x.Rec.Kind, .int .i64 x.Rec.Txn, .int .i64 x.Rec.Time, .int .i64 x.Rec.Lead, .slice pr x.Rec.Reads.length cr, .slice pw x.Rec.Writes.length cw, .bool x.Rec.Yes]] W fun e w' => EntRet x W.heap.size e w' ∧ Below W.heap.size W w') := Lib.hid fun W b => (copyRec_d x.Rec zRecKind zRecTxn zRecTime zRecLead lRecReads lRecWrites W _ (rRecReads.below b) _ (rRecWrites.below b)).mono fun _ _ h => ⟨entRet_of zTerm h.1, h.2⟩
      unfold EntRet at Hcp
      have Hset := Lib.hid (fun (w1 : World) (k1 : Below wr.heap.size wr w1) (pR : Option Addr) (cR : Nat) (pW : Option Addr) (cW : Nat) (f : List Nat) hx hm => Pc.out.set k1 (vs := [.int .i64 x.Term, .int .i64 x.Rec.Kind, .int .i64 x.Rec.Txn, .int .i64 x.Rec.Time, .int .i64 x.Rec.Lead, .slice pR x.Rec.Reads.length cR, .slice pW x.Rec.Writes.length cW, .bool x.Rec.Yes]) (x := x) (f := f) rfl hx hm (by rw [hktl]; exact hlt))
      rw [hktl, ← Ht.out] at Hset
      have Hq : Hid (∀ w1, Below wr.heap.size wr w1 → ∃ cells : List Value, w1.ownsRow w.heap.size 81 8 (.slice (some ⟨w.heap.size, 0, none⟩) n n) n cells ∧ cells.length = n * 8) := Lib.hid fun w1 k1 => by
        obtain ⟨fs, hown, _⟩ := Pc.out.below k1
        exact ⟨cells, hown, hown.1⟩
      clear Hp Pc lRecReads lRecWrites rRecReads rRecWrites Ht hktl Hl
      go_upto_region 5 with fail
      go_region_with (go_at_call 62; (with_reducible refine (Hcp.out _ (by (repeat (first | (with_reducible exact Below.refl _ _) | (with_reducible refine below_setCell ?_ (by first | (simp; done) | (simp; omega) | omega)) | (with_reducible refine below_alloc _ ?_) | (with_reducible refine below_drewN ?_ _) | (with_reducible refine below_drew_step ?_) | (with_reducible assumption) | (with_reducible refine below_after (by assumption) ?_))))).mono ?_); rintro e w1 ⟨⟨pR, cR, pW, cW, f, rfl, hx, hm⟩, k1⟩; have hx1 := bcell k1; have kb : Below wr.heap.size wr w1 := below_after k1 (by (repeat (first | (with_reducible exact Below.refl _ _) | (with_reducible refine below_setCell ?_ (by first | (simp; done) | (simp; omega) | omega)) | (with_reducible refine below_alloc _ ?_) | (with_reducible refine below_drewN ?_ _) | (with_reducible refine below_drew_step ?_) | (with_reducible assumption) | (with_reducible refine below_after (by assumption) ?_)))); have Hx := Lib.hid hx; have Hm := Lib.hid (hm.mono (base' := wr.heap.size) (by first | exact Nat.le_refl _ | (simp; done) | (simp; omega))); clear hx hm; obtain ⟨cells1, hown, hlen⟩ := Hq.out w1 kb; obtain ⟨old0, g0⟩ : ∃ u, w1.cell? ⟨w.heap.size, k * 8, none⟩ = some u := ⟨_, by rw [hown.cellAt _ (by omega), List.getElem?_eq_getElem (by omega)]⟩; have y0 := hown.frozenAt (k * 8); obtain ⟨old1, g1⟩ : ∃ u, w1.cell? ⟨w.heap.size, k * 8 + 1, none⟩ = some u := ⟨_, by rw [hown.cellAt _ (by omega), List.getElem?_eq_getElem (by omega)]⟩; have y1 := hown.frozenAt (k * 8 + 1); obtain ⟨old2, g2⟩ : ∃ u, w1.cell? ⟨w.heap.size, k * 8 + 2, none⟩ = some u := ⟨_, by rw [hown.cellAt _ (by omega), List.getElem?_eq_getElem (by omega)]⟩; have y2 := hown.frozenAt (k * 8 + 2); obtain ⟨old3, g3⟩ : ∃ u, w1.cell? ⟨w.heap.size, k * 8 + 3, none⟩ = some u := ⟨_, by rw [hown.cellAt _ (by omega), List.getElem?_eq_getElem (by omega)]⟩; have y3 := hown.frozenAt (k * 8 + 3); obtain ⟨old4, g4⟩ : ∃ u, w1.cell? ⟨w.heap.size, k * 8 + 4, none⟩ = some u := ⟨_, by rw [hown.cellAt _ (by omega), List.getElem?_eq_getElem (by omega)]⟩; have y4 := hown.frozenAt (k * 8 + 4); obtain ⟨old5, g5⟩ : ∃ u, w1.cell? ⟨w.heap.size, k * 8 + 5, none⟩ = some u := ⟨_, by rw [hown.cellAt _ (by omega), List.getElem?_eq_getElem (by omega)]⟩; have y5 := hown.frozenAt (k * 8 + 5); obtain ⟨old6, g6⟩ : ∃ u, w1.cell? ⟨w.heap.size, k * 8 + 6, none⟩ = some u := ⟨_, by rw [hown.cellAt _ (by omega), List.getElem?_eq_getElem (by omega)]⟩; have y6 := hown.frozenAt (k * 8 + 6); obtain ⟨old7, g7⟩ : ∃ u, w1.cell? ⟨w.heap.size, k * 8 + 7, none⟩ = some u := ⟨_, by rw [hown.cellAt _ (by omega), List.getElem?_eq_getElem (by omega)]⟩; have y7 := hown.frozenAt (k * 8 + 7); clear hown hlen)
      all_goals
        go_wp2
        go_roundw
        case rel => exact ⟨k + 1, by go_num, by omega, Lib.hid (Hset.out w1 kb pR cR pW cW f Hx.out Hm.out), below_setCell (below_setCell (below_setCell (below_setCell (below_setCell (below_setCell (below_setCell (below_setCell (kb.mono hbs |> hb.trans) (Nat.le_refl _)) (Nat.le_refl _)) (Nat.le_refl _)) (Nat.le_refl _)) (Nat.le_refl _)) (Nat.le_refl _)) (Nat.le_refl _)) (Nat.le_refl _)⟩
        case measure => simp [intOf]; omega
    · have hlt2 : (n : Int) ≤ (k : Int) := by omega
      obtain rfl : k = n := by omega
      go_wp2
      go_ret
      have hf : l.take k = l := List.take_of_length_le (by have := Hn.out; omega)
      have h3 := Hp.out
      rw [hf] at h3
      exact ⟨_, rfl, h3.ownR Hn.out, hb⟩

/-- impl.copyEntries -/
theorem copyEntries_any (v : Value) (l : List EntryD) (hl : costEntryS l ≤ 1048576) (w : World) (h : Rd Cod.entry w v l) :
    Calls Try.prog 74 #[v] w fun e w' => ∃ v', e = .returned v' ∧ Own Cod.entry w' w.heap.size v' l ∧ Below w.heap.size w w' :=
  (copyEntries_r v l hl w h).mono fun _ _ ⟨v', he, o, b⟩ => ⟨v', he, o.own, b⟩

end Go.Proofs.Ytogdbjalgledpaa
