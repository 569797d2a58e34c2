/- KeysOf, both. -/
import Derived.Test.YtibgpjkpfakgiaaKeysOf
import Derived.Test.YtibgpjkpfakgiaaGoodRec
import Derived.Test.YtibgpjkpfakgiaaPick
namespace Go.Proofs.Ytibgpjkpfakgiaa
open Go.RowKit

theorem read_size {w : World} {v : Value} {l : List ByteArray} (h : Rd Cod.str w v l) : ∀ j (h : j < l.length), l[j].size ≤ maxLen := fun j hj => by
  obtain ⟨p, c, rfl, _, _, r⟩ := h.form
  obtain ⟨g, o, _, _, hc⟩ := r (by omega)
  obtain ⟨_, _, z, _⟩ := hc j hj
  exact z

set_option maxRecDepth 100000 in
set_option maxHeartbeats 800000 in
/-- impl.KeysOf -/
theorem keysOfX_any (y : RecD) (c : costRec y ≤ 1048576) (u : World) (a b : Value) (ra : Rd Cod.str u a y.Reads) (rb : Rd Cod.write u b y.Writes) :
    Calls Try.prog 11 #[.agg #[.int .i64 y.Kind, .int .i64 y.Txn, .int .i64 y.Time, .int .i64 y.Lead, a, b, .bool y.Yes]] u fun e w' => ∃ v', e = .returned (.tuple #[v', .bool (goodRB y)]) ∧ Own Cod.str w' u.heap.size v' (pickL (goodRB y) (setL (y.Reads ++ y.Writes.map fun x => x.Key))) ∧ Below u.heap.size u w' := by
  have Hg := Lib.hid (fun (W : World) (k : Below u.heap.size u W) => goodRec_any y (by unfold costRec costStringS costWriteS at c; omega) (by unfold costRec costStringS costWriteS at c; omega) W a b (ra.below k) (rb.below k))
  have Hc := Lib.hid (fun (W : World) (k : Below u.heap.size u W) => keysOf_any a b y.Reads y.Writes (by unfold costRec costStringS costWriteS at c; omega) W (ra.below k) (rb.below k))
  obtain ⟨pa, ca, rfl, -⟩ := ra.form
  obtain ⟨pb, cb, rfl, -⟩ := rb.form
  clear ra rb
  generalize goodRB y = q at *
  generalize setL (y.Reads ++ y.Writes.map fun x => x.Key) = res at *
  obtain ⟨yK, yT, yTi, yL, yR, yW, yY⟩ := y
  dsimp only at *
  generalize yR.length = nr at *
  generalize yW.length = nw at *
  cases q
  all_goals
    go_enter Try.func11, Try.ntmps11
    go_wp2_with fail
    refine (Hg.out _ (by (repeat (first | (with_reducible exact Below.refl _ _) | (with_reducible refine below_setCell ?_ (by first | (simp; done) | (simp; omega) | omega)) | (with_reducible refine below_alloc _ ?_) | (with_reducible refine below_drewN ?_ _) | (with_reducible assumption) | (with_reducible refine below_after (by assumption) ?_))))).mono ?_
    rintro e w1 ⟨rfl, k1⟩
    have b1 : Below u.heap.size u w1 := below_after k1 (by (repeat (first | (with_reducible exact Below.refl _ _) | (with_reducible refine below_setCell ?_ (by first | (simp; done) | (simp; omega) | omega)) | (with_reducible refine below_alloc _ ?_) | (with_reducible refine below_drewN ?_ _) | (with_reducible assumption) | (with_reducible refine below_after (by assumption) ?_))))
    have c4 : w1.cell? ⟨u.heap.size, 4, none⟩ = some (.slice pa nr ca) := by rw [(bcell k1).1 _ _ (by first | (simp; done) | (simp; omega))]; simp [go_sem]
    have c5 : w1.cell? ⟨u.heap.size, 5, none⟩ = some (.slice pb nw cb) := by rw [(bcell k1).1 _ _ (by first | (simp; done) | (simp; omega))]; simp [go_sem]
    clear k1
  · go_wp2
    go_ret2
    exact ⟨_, rfl, own_nil _ _ _, b1⟩
  · go_wp2_with fail
    refine (Hc.out _ b1).mono ?_
    rintro e w2 ⟨v', rfl, o2, k2⟩
    go_wp2
    go_ret2
    exact ⟨_, rfl, o2.mono b1.size, below_after k2 b1⟩

set_option maxRecDepth 100000 in
set_option maxHeartbeats 800000 in
/-- spec.KeysOf -/
theorem keysOfS_any (y : RecD) (c : costRec y ≤ 1048576) (u : World) (a b : Value) (ra : Rd Cod.str u a y.Reads) (rb : Rd Cod.write u b y.Writes) :
    Calls Try.prog 9 #[.agg #[.int .i64 y.Kind, .int .i64 y.Txn, .int .i64 y.Time, .int .i64 y.Lead, a, b, .bool y.Yes]] u fun e w' => ∃ v', e = .returned (.tuple #[v', .bool (goodRB y)]) ∧ Own Cod.str w' u.heap.size v' (pickL (goodRB y) (setL (y.Reads ++ y.Writes.map fun x => x.Key))) ∧ Below u.heap.size u w' := by
  have Hg := Lib.hid (fun (W : World) (k : Below u.heap.size u W) => l4Good_any y (by unfold costRec costStringS costWriteS at c; omega) (by unfold costRec costStringS costWriteS at c; omega) W a b (ra.below k) (rb.below k))
  have Hc := Lib.hid (fun (W : World) (k : Below u.heap.size u W) => l4KeysOf_any a b y.Reads y.Writes (by unfold costRec costStringS costWriteS at c; omega) (read_size ra) W (ra.below k) (rb.below k))
  obtain ⟨pa, ca, rfl, -⟩ := ra.form
  obtain ⟨pb, cb, rfl, -⟩ := rb.form
  clear ra rb
  generalize goodRB y = q at *
  generalize setL (y.Reads ++ y.Writes.map fun x => x.Key) = res at *
  obtain ⟨yK, yT, yTi, yL, yR, yW, yY⟩ := y
  dsimp only at *
  generalize yR.length = nr at *
  generalize yW.length = nw at *
  cases q
  all_goals
    go_enter Try.func9, Try.ntmps9
    go_wp2_with fail
    refine (Hg.out _ (by (repeat (first | (with_reducible exact Below.refl _ _) | (with_reducible refine below_setCell ?_ (by first | (simp; done) | (simp; omega) | omega)) | (with_reducible refine below_alloc _ ?_) | (with_reducible refine below_drewN ?_ _) | (with_reducible assumption) | (with_reducible refine below_after (by assumption) ?_))))).mono ?_
    rintro e w1 ⟨rfl, k1⟩
    have b1 : Below u.heap.size u w1 := below_after k1 (by (repeat (first | (with_reducible exact Below.refl _ _) | (with_reducible refine below_setCell ?_ (by first | (simp; done) | (simp; omega) | omega)) | (with_reducible refine below_alloc _ ?_) | (with_reducible refine below_drewN ?_ _) | (with_reducible assumption) | (with_reducible refine below_after (by assumption) ?_))))
    have c4 : w1.cell? ⟨u.heap.size, 4, none⟩ = some (.slice pa nr ca) := by rw [(bcell k1).1 _ _ (by first | (simp; done) | (simp; omega))]; simp [go_sem]
    have c5 : w1.cell? ⟨u.heap.size, 5, none⟩ = some (.slice pb nw cb) := by rw [(bcell k1).1 _ _ (by first | (simp; done) | (simp; omega))]; simp [go_sem]
    clear k1
  · go_wp2
    go_ret2
    exact ⟨_, rfl, own_nil _ _ _, b1⟩
  · go_wp2_with fail
    refine (Hc.out _ b1).mono ?_
    rintro e w2 ⟨v', rfl, o2, k2⟩
    go_wp2
    go_ret2
    exact ⟨_, rfl, o2.mono b1.size, below_after k2 b1⟩

end Go.Proofs.Ytibgpjkpfakgiaa
