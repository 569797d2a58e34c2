/- laws.eqEntry, laws.eqEntryS of equal data. Printed by mkdata2.py. -/
import Derived.Test.YtccmnffehhaobaaData2
import Derived.Test.YtccmnffehhaobaaEqRec
namespace Go.Proofs.Ytccmnffehhaobaa
open Go.RowKit

set_option maxRecDepth 100000 in
set_option maxHeartbeats 1600000 in
/-- laws.eqEntry -/
theorem eqEntry_d (x : EntryD) (lReads : x.Rec.Reads.length ≤ 1048576) (lWrites : x.Rec.Writes.length ≤ 1048576) (w : World) (uRecReads : Value) (ruRecReads : Rd Cod.str w uRecReads x.Rec.Reads) (uRecWrites : Value) (ruRecWrites : Rd Cod.write w uRecWrites x.Rec.Writes) (vRecReads : Value) (rvRecReads : Rd Cod.str w vRecReads x.Rec.Reads) (vRecWrites : Value) (rvRecWrites : Rd Cod.write w vRecWrites x.Rec.Writes) :
    Calls Try.prog 144 #[.agg #[.int .i64 x.Term, .int .i64 x.Rec.Kind, .int .i64 x.Rec.Txn, .int .i64 x.Rec.Time, .int .i64 x.Rec.Lead, uRecReads, uRecWrites, .bool x.Rec.Yes], .agg #[.int .i64 x.Term, .int .i64 x.Rec.Kind, .int .i64 x.Rec.Txn, .int .i64 x.Rec.Time, .int .i64 x.Rec.Lead, vRecReads, vRecWrites, .bool x.Rec.Yes]] w fun e w' => e = .returned (.bool true) ∧ Below w.heap.size w w' := by
  have Hc := Lib.hid (fun (W : World) (k : Below w.heap.size w W) => eqRec_d x.Rec lReads lWrites W uRecReads (ruRecReads.below k) uRecWrites (ruRecWrites.below k) vRecReads (rvRecReads.below k) vRecWrites (rvRecWrites.below k))
  obtain ⟨term, ⟨a, b, c, d, rs, ws, y⟩⟩ := x
  dsimp only at *
  obtain ⟨pr, cr, rfl, -⟩ := ruRecReads.form
  obtain ⟨pw, cw, rfl, -⟩ := ruRecWrites.form
  obtain ⟨pr2, cr2, rfl, -⟩ := rvRecReads.form
  obtain ⟨pw2, cw2, rfl, -⟩ := rvRecWrites.form
  clear ruRecReads ruRecWrites rvRecReads rvRecWrites
  go_enter Try.func144, Try.ntmps144
  go_wp2_with fail
  refine (Hc.out _ (by (repeat (first | exact Below.refl _ _ | exact below_new _ _ | refine below_setCell ?_ (by first | (simp; done) | (simp; omega) | omega) | refine below_alloc _ ?_ | refine below_drewN ?_ _ | refine below_after (by assumption) ?_ | assumption)))).mono ?_
  rintro e w1 ⟨rfl, k1⟩
  go_wp2
  go_ret
  exact ⟨rfl, below_after k1 (by (repeat (first | exact Below.refl _ _ | exact below_new _ _ | refine below_setCell ?_ (by first | (simp; done) | (simp; omega) | omega) | refine below_alloc _ ?_ | refine below_drewN ?_ _ | refine below_after (by assumption) ?_ | assumption)))⟩

set_option maxRecDepth 100000 in
set_option maxHeartbeats 800000 in
/-- laws.eqEntryS -/
theorem eqEntryS_any (v1 v2 : Value) (l : List EntryD) (w : World) (h1 : Rd Cod.entry w v1 l) (h2 : Rd Cod.entry w v2 l) (hl : costEntryS l ≤ 1048576) :
    Calls Try.prog 62 #[v1, v2] w fun e w' => e = .returned (.bool true) ∧ Below w.heap.size w w' := by
  obtain ⟨p1, c1, rfl, _, _, r1⟩ := h1.form
  obtain ⟨p2, c2, rfl, _, _, r2⟩ := h2.form
  have R1 := Lib.hid r1
  have R2 := Lib.hid r2
  have Hl := Lib.hid hl
  clear r1 r2 h1 h2
  obtain ⟨n, hn⟩ : ∃ n : Nat, l.length = n := ⟨_, rfl⟩
  have Hn := Lib.hid hn
  have hnb : (n : Int) ≤ 1048576 := by unfold costEntryS at hl; omega
  rw [hn]
  clear hn hl
  go_enter Try.func62, Try.ntmps62
  go_wp2
  go_loopw [5] (fun i wr => ∃ k : Nat, i = .int .i64 (k : Int) ∧ k ≤ n ∧ Below w.heap.size w wr) (fun i _ => n - (intOf i).toNat)
  case atStart => exact ⟨0, rfl, Nat.zero_le _, Below.refl _ _⟩
  case round =>
    obtain ⟨k, rfl, hk, hb⟩ := hrel
    have hbs := hb.size
    by_cases hlt : k < n
    · have hlt2 : (k : Int) < (n : Int) := by omega
      have hkl : k < l.length := by have := Hn.out; omega
      obtain ⟨g1, o1, rfl, hg1, hc1⟩ := R1.out (by have := Hn.out; omega)
      obtain ⟨g2, o2, rfl, hg2, hc2⟩ := R2.out (by have := Hn.out; omega)
      have at1 := (hc1 k hkl).below hg1 hb
      have at2 := (hc2 k hkl).below hg2 hb
      have Hx : Hid (l[k].Rec.Reads.length ≤ 1048576 ∧ l[k].Rec.Writes.length ≤ 1048576) := Lib.hid (by have h1 := Hl.out; have h2 := sumC_get costEntry l k hkl; unfold costEntryS at h1; have hRecReads : l[k].Rec.Reads.length ≤ costEntry l[k] := (by unfold costEntry costStringS; omega); have hRecWrites : l[k].Rec.Writes.length ≤ costEntry l[k] := (by unfold costEntry costWriteS; omega); omega)
      obtain ⟨x, es⟩ : ∃ x, l[k] = x := ⟨_, rfl⟩
      rw [es] at at1 at2 Hx
      clear hc1 hc2 es hkl
      obtain ⟨ud0, ud1, ud2, ud3, ud4, ⟨uRecReads, ud5, ruRecReads⟩, ⟨uRecWrites, ud6, ruRecWrites⟩, ud7, zTerm, zRecKind, zRecTxn, zRecTime, zRecLead⟩ := at_entry at1
      obtain ⟨vd0, vd1, vd2, vd3, vd4, ⟨vRecReads, vd5, rvRecReads⟩, ⟨vRecWrites, vd6, rvRecWrites⟩, vd7, _, _, _, _, _⟩ := at_entry at2
      rw [show o1 + k * Cod.entry.size = o1 + k * 8 from rfl, show o2 + k * Cod.entry.size = o2 + k * 8 from rfl] at *
      clear at1 at2
      have hg1' : g1 < wr.heap.size := by omega
      have hg2' : g2 < wr.heap.size := by omega
      have Hd := Lib.hid (fun (W : World) (uRecReads : Value) (r1RecReads : Rd (Cod.str) W uRecReads x.Rec.Reads) (uRecWrites : Value) (r1RecWrites : Rd (Cod.write) W uRecWrites x.Rec.Writes) (vRecReads : Value) (r2RecReads : Rd (Cod.str) W vRecReads x.Rec.Reads) (vRecWrites : Value) (r2RecWrites : Rd (Cod.write) W vRecWrites x.Rec.Writes) => eqEntry_d x Hx.out.1 Hx.out.2 W uRecReads r1RecReads uRecWrites r1RecWrites vRecReads r2RecReads vRecWrites r2RecWrites)
      go_wp2_with fail
      have hx2 := fun (u : World) (b o : Nat) (h : b < wr.heap.size) => ext_cell wr u b o h
      refine wp_region_ext (by kernel_rfl) (by kernel_rfl) wr.heap.size ?_
      repeat (any_goals (go_big_quiet_step ((go_at_call 144; exact calls_ext (by first | (simp; done) | omega | (simp; omega)) (Hd.out _ _ (ruRecReads.below (ext_below _ _ _)) _ (ruRecWrites.below (ext_below _ _ _)) _ (rvRecReads.below (ext_below _ _ _)) _ (rvRecWrites.below (ext_below _ _ _)))))))
      refine wpQuiet_nil ?_
      intro w2 hb2
      clear hx2
      go_wp2
      go_roundw
      case rel => exact ⟨k + 1, by go_num, by omega, below_after hb2 hb⟩
      case measure => simp [intOf]; omega
    · have hlt2 : (n : Int) ≤ (k : Int) := by omega
      go_wp2
      go_ret
      exact ⟨rfl, hb⟩

end Go.Proofs.Ytccmnffehhaobaa
