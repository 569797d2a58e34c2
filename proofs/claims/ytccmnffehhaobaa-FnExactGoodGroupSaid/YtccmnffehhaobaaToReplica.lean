/- laws.toReplica, laws.toReplicaS. Printed by mkdata2.py. -/
import Derived.Test.YtccmnffehhaobaaData2
import Derived.Test.YtccmnffehhaobaaToEntry
namespace Go.Proofs.Ytccmnffehhaobaa
open Go.RowKit

/-- What toReplica gives. -/
def ToReplica (x : ReplicaD) (base : Nat) (e : Ending) (w' : World) : Prop :=
  ∃ pLog' cLog' f, e = .returned (.agg #[.bool x.Up, .slice pLog' x.Log.length cLog', .int .i64 x.Sure]) ∧ Cod.replica.rd w' (lst [.bool x.Up, .slice pLog' x.Log.length cLog', .int .i64 x.Sure]) x f ∧ Mine w' base f

set_option maxRecDepth 100000 in
set_option maxHeartbeats 1600000 in
/-- laws.toReplica -/
theorem toReplica_d (x : ReplicaD) (zSure : I64 x.Sure) (lLog : costEntryS x.Log ≤ 1048576) (w : World) (uLog : Value) (rLog : Rd (Cod.entry) w uLog x.Log) :
    Calls Try.prog 200 #[.agg #[.bool x.Up, uLog, .int .i64 x.Sure]] w fun e w' => ToReplica x w.heap.size e w' ∧ Below w.heap.size w w' := by
  unfold ToReplica
  have Hm := Lib.hid (fun (W : World) (uLog : Value) (fLog : List Nat) (rLog : Cod.rdS (Cod.entry) W uLog x.Log fLog) => mk_replica (w := W) (g := lst [.bool x.Up, uLog, .int .i64 x.Sure]) (x := x) rfl rfl rLog rfl zSure)
  obtain ⟨xUp, xLog, xSure⟩ := x
  simp only at *
  have HLog := Lib.hid (fun (w : World) (r : Rd (Cod.entry) w uLog xLog) => toEntryS_any uLog xLog lLog w r)
  go_enter Try.func200, Try.ntmps200
  go_wp2_with fail
  refine (HLog.out _ (rLog.below (by (repeat (first | exact Below.refl _ _ | exact below_new _ _ | refine below_setCell ?_ (by first | (simp; done) | (simp; omega) | omega) | refine below_alloc _ ?_ | refine below_drewN ?_ _ | refine below_after (by assumption) ?_ | assumption))))).mono ?_
  rintro e w1 ⟨uLog', rfl, o1, k1⟩
  obtain ⟨pLog', cLog', rfl⟩ := o1.form
  have b1 : Below w.heap.size w w1 := below_after k1 (by (repeat (first | exact Below.refl _ _ | exact below_new _ _ | refine below_setCell ?_ (by first | (simp; done) | (simp; omega) | omega) | refine below_alloc _ ?_ | refine below_drewN ?_ _ | refine below_after (by assumption) ?_ | assumption)))
  have hx1 := bcell k1
  have q10 : w.heap.size < w1.heap.size := by have := k1.size; first | (simp at this; omega) | omega
  have q11 : w.heap.size + 1 < w1.heap.size := by have := k1.size; first | (simp at this; omega) | omega
  have q12 : w.heap.size + 2 < w1.heap.size := by have := k1.size; first | (simp at this; omega) | omega
  replace o1 := o1.mono (base' := w.heap.size + 3) (by simp)
  go_wp2
  obtain ⟨f1, s1, m1⟩ := o1
  refine bodyPost_ret (v := .agg #[.bool xUp, .slice pLog' xLog.length cLog', .int .i64 xSure]) (by simp [results, Try.results200, go_sem, hx1.1, q11, q10, q12]) rfl ⟨⟨pLog', cLog', _, rfl, Hm.out _ _ f1 ?r1, ?_⟩, ?_⟩
  case r1 => exact rdS_keep s1 m1 (B := w.heap.size + 3) (by omega) (by (repeat (first | (with_reducible exact Keep.refl _ _) | (with_reducible refine keep_set ?_ (by first | (simp; done) | (simp; omega) | omega)) | (with_reducible refine keep_alloc _ ?_) | (with_reducible refine keep_drewN ?_ _) | (with_reducible assumption) | (with_reducible refine keep_below (by assumption) ?_))))
  · rw [List.append_nil]
    exact (m1.keep (B := w.heap.size + 3) (by omega) (Cod.rdS_old _ s1) (by (repeat (first | (with_reducible exact Keep.refl _ _) | (with_reducible refine keep_set ?_ (by first | (simp; done) | (simp; omega) | omega)) | (with_reducible refine keep_alloc _ ?_) | (with_reducible refine keep_drewN ?_ _) | (with_reducible assumption) | (with_reducible refine keep_below (by assumption) ?_))))).mono (by omega)
  · (repeat (first | (with_reducible exact Below.refl _ _) | (with_reducible refine below_setCell ?_ (by first | (simp; done) | (simp; omega) | omega)) | (with_reducible refine below_alloc _ ?_) | (with_reducible refine below_drewN ?_ _) | (with_reducible assumption) | (with_reducible refine below_after (by assumption) ?_)))

theorem Try_info_replica : (Try.prog.info? 142).map (fun i => (i.zero, i.size, i.bytes)) = some (some (.agg #[.bool false, .slice none 0 0, .int .i64 0]), 3, 40) := by kernel_rfl

set_option maxRecDepth 100000 in
set_option maxHeartbeats 800000 in
/-- laws.toReplicaS -/
theorem toReplicaS_any (v : Value) (l : List ReplicaD) (hl : costReplicaS l ≤ 1048576) (w : World) (h : Rd Cod.replica w v l) :
    Calls Try.prog 130 #[v] w fun e w' => ∃ v', e = .returned v' ∧ Own Cod.replica w' w.heap.size v' l ∧ Below w.heap.size w w' := by
  obtain ⟨i0, hi, hz0, hz1, hz2⟩ := info_parts Try_info_replica
  obtain ⟨p, c, rfl, hlc, hcm, r⟩ := h.form
  have R := Lib.hid r
  clear r h hlc hcm
  have Hc := Lib.hid hl
  obtain ⟨n, hn⟩ : ∃ n : Nat, l.length = n := ⟨_, rfl⟩
  have Hn := Lib.hid hn
  have hnb : (n : Int) ≤ 1048576 := by unfold costReplicaS at hl; omega
  rw [hn]
  clear hn hl
  have hb16 : i0.bytes * n ≤ 281474976710656 := by rw [hz2]; omega
  go_enter Try.func130, Try.ntmps130
  go_wp2_with (refine wpList_make_full w rfl _ _ 76 (by rfl) w.heap.size 142 i0 (.agg #[.bool false, .slice none 0 0, .int .i64 0]) 3 Try.underlying76 hi hz0 hz1 .i64 .i64 (n : Int) (n : Int) n (by rfl) (by rfl) rfl rfl hb16 (by unfold maxLen; omega) (Nat.le_refl _) ?_)
  intro w1 hown1 hg1
  have P1 := Lib.hid (part_start (c := Cod.replica) (show w1.ownsRow w.heap.size 142 Cod.replica.size (.slice (some ⟨w.heap.size, 0, none⟩) n n) n _ from hown1))
  have hb1 : Below w.heap.size w w1 := Below.grown (Below.refl _ _) hg1 (Nat.le_refl _) (by simp)
  clear hown1 hg1 hb16 hi hz0 hz1 hz2
  go_wp2
  go_loopw [4] (fun i wr => ∃ k : Nat, i = .int .i64 (k : Int) ∧ k ≤ n ∧ Hid (Part Cod.replica wr w.heap.size 142 (.slice (some ⟨w.heap.size, 0, none⟩) n n) n (l.take k)) ∧ Below w.heap.size w wr) (fun i _ => n - (intOf i).toNat)
  case atStart => exact ⟨0, rfl, Nat.zero_le _, Lib.hid ⟨_, P1.out⟩, hb1⟩
  case round =>
    obtain ⟨k, rfl, hk, Hp, hb⟩ := hrel
    by_cases hlt : k < n
    · have hlt2 : (k : Int) < (n : Int) := by omega
      have hkl : k < l.length := by have := Hn.out; omega
      have hktl : (l.take k).length = k := by rw [List.length_take]; omega
      obtain ⟨g, o, rfl, hg, hc⟩ := R.out (by have := Hn.out; omega)
      have at0 := (hc k hkl).below hg hb
      have Ht := Lib.hid (List.take_succ_eq_append_getElem hkl)
      have hcst := sumC_get costReplica l k hkl
      obtain ⟨x, es⟩ : ∃ x, l[k] = x := ⟨_, rfl⟩
      rw [es] at at0 Ht hcst
      have Hl : Hid (costReplica x ≤ 1048576) := Lib.hid (by have := Hc.out; unfold costReplicaS at this; omega)
      clear hc es hkl hcst
      obtain ⟨d0, ⟨uLog, d1, rLog⟩, d2, zSure⟩ := at_replica at0
      rw [show o + k * Cod.replica.size = o + k * 3 from rfl] at *
      clear at0
      have lLog : costEntryS x.Log ≤ 1048576 := by have := Hl.out; unfold costReplica at this; omega
      obtain ⟨cells, Pc⟩ := Hp.out
      have Hx := Lib.hid (toReplica_d x zSure lLog)
      have Pc := Lib.hid Pc
      clear Hp
      go_wp2_with fail
      refine (Hx.out _ _ rLog).mono ?_
      rintro e w1 ⟨⟨pLog', cLog', f, rfl, hx, hm⟩, k1⟩
      have hb2 := below_after k1 hb
      have hq := hb2.size
      have Pd := Pc.out.below k1
      obtain ⟨fs, hown, _⟩ := Pd
      replace hown : w1.ownsRow w.heap.size 142 3 (.slice (some ⟨w.heap.size, 0, none⟩) n n) n cells := hown
      have hlen : cells.length = n * 3 := hown.1
      obtain ⟨old0, g0⟩ : ∃ u, w1.cell? ⟨w.heap.size, k * 3, none⟩ = some u := ⟨_, by rw [hown.cellAt _ (by omega), List.getElem?_eq_getElem (by omega)]⟩
      have y0 := hown.frozenAt (k * 3)
      obtain ⟨old1, g1⟩ : ∃ u, w1.cell? ⟨w.heap.size, k * 3 + 1, none⟩ = some u := ⟨_, by rw [hown.cellAt _ (by omega), List.getElem?_eq_getElem (by omega)]⟩
      have y1 := hown.frozenAt (k * 3 + 1)
      obtain ⟨old2, g2⟩ : ∃ u, w1.cell? ⟨w.heap.size, k * 3 + 2, none⟩ = some u := ⟨_, by rw [hown.cellAt _ (by omega), List.getElem?_eq_getElem (by omega)]⟩
      have y2 := hown.frozenAt (k * 3 + 2)
      have Hset := Lib.hid (Pc.out.set k1 (vs := [.bool x.Up, .slice pLog' x.Log.length cLog', .int .i64 x.Sure]) rfl hx hm (by rw [hktl]; exact hlt))
      rw [hktl, ← Ht.out] at Hset
      clear hown Pc hktl Ht hx hm hlen
      go_wp2
      go_roundw
      case rel => exact ⟨k + 1, by go_num, by omega, Hset, below_setCell (below_setCell (below_setCell (hb2) (Nat.le_refl _)) (Nat.le_refl _)) (Nat.le_refl _)⟩
      case measure => simp [intOf]; omega
    · have hlt2 : (n : Int) ≤ (k : Int) := by omega
      obtain rfl : k = n := by omega
      go_wp2
      go_ret
      have hf : l.take k = l := List.take_of_length_le (by have := Hn.out; omega)
      have h3 := Hp.out
      rw [hf] at h3
      exact ⟨_, rfl, h3.own Hn.out, hb⟩

end Go.Proofs.Ytccmnffehhaobaa
