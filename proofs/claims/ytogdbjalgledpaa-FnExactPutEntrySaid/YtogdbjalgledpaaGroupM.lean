/- Entries, replicas, groups: how they are marked; laws.markGroup, laws.heldGroup. -/
import Derived.Test.YtogdbjalgledpaaData2
import Derived.Test.YtogdbjalgledpaaLawM
import Derived.Test.YtogdbjalgledpaaMarks
namespace Go.Proofs.Ytogdbjalgledpaa
open Go.RowKit

def LEntry (x : EntryD) : Nat := 1 + LRec x.Rec
theorem fitsEntry : Fits Cod.entry PT.tentry LEntry := Fits.via (Fits.pair (fits_one _ _ _) fitsRec) _
def LReplica (x : ReplicaD) : Nat := 1 + (sumN LEntry x.Log + 1)
theorem fitsReplica : Fits Cod.replica PT.treplica LReplica := Fits.via (Fits.pair (fits_one _ _ _) (Fits.pair (Fits.slice fitsEntry) (fits_one _ _ _))) _

theorem lenEntry (l : List EntryD) : sumN LEntry l ≤ 6 * costEntryS l := by
  refine sumN_le LEntry costEntry 6 (fun x => ?_) l
  have h1 := lenString x.Rec.Reads
  have h2 := lenWrite x.Rec.Writes
  unfold LEntry LRec costEntry
  omega
theorem lenReplica (l : List ReplicaD) : sumN LReplica l ≤ 6 * costReplicaS l := by
  refine sumN_le LReplica costReplica 6 (fun x => ?_) l
  have h1 := lenEntry x.Log
  unfold LReplica costReplica
  omega

theorem markEntryS_l (k0 : Nat) (h0 : 0 < k0) (v : Value) (l : List EntryD) (lo hi : Nat) (u : World) (h : OwnIn Cod.entry u lo hi v l) (hL : k0 + sumN LEntry l ≤ 1073741824) :
    Calls Try.prog 92 #[v, .int .i64 (k0 : Int)] u fun e u' => e = .returned (.int .i64 ((k0 + sumN LEntry l : Nat) : Int)) ∧ HeldS PT.tentry u' v k0 (sumN LEntry l) ∧ Turn lo hi u u' := by
  obtain ⟨fp, h1, h2, h3, h4⟩ := h.marked fitsEntry
  refine (markEntryS_p k0 h0 v fp u h1 h2 (by rw [h3]; exact hL)).mono ?_
  rintro e u' ⟨rfl, hs⟩
  exact ⟨by rw [h3], h4 u' k0 hs⟩
theorem markReplicaS_l (k0 : Nat) (h0 : 0 < k0) (v : Value) (l : List ReplicaD) (lo hi : Nat) (u : World) (h : OwnIn Cod.replica u lo hi v l) (hL : k0 + sumN LReplica l ≤ 1073741824) :
    Calls Try.prog 51 #[v, .int .i64 (k0 : Int)] u fun e u' => e = .returned (.int .i64 ((k0 + sumN LReplica l : Nat) : Int)) ∧ HeldS PT.treplica u' v k0 (sumN LReplica l) ∧ Turn lo hi u u' := by
  obtain ⟨fp, h1, h2, h3, h4⟩ := h.marked fitsReplica
  refine (markReplicaS_p k0 h0 v fp u h1 h2 (by rw [h3]; exact hL)).mono ?_
  rintro e u' ⟨rfl, hs⟩
  exact ⟨by rw [h3], h4 u' k0 hs⟩

theorem turn_after {lo hi : Nat} {w w1 w' : World} (b : Below w.heap.size w w1) (t : Turn lo hi w1 w') : Turn lo hi w w' :=
  ⟨t.os.trans b.os, t.tape.trans b.tape, t.output.trans b.output, Nat.le_trans b.size t.size, fun d h1 h2 => (t.block d (Nat.lt_of_lt_of_le h1 b.size) h2).trans (b.block d h1)⟩

set_option maxRecDepth 100000 in
/-- laws.markGroup -/
theorem markGroup_l (k0 : Nat) (h0 : 0 < k0) (v : Value) (l : List ReplicaD) (t d : Int) (lo hi : Nat) (u : World) (h : OwnIn Cod.replica u lo hi v l) (hL : k0 + sumN LReplica l ≤ 1073741824) :
    Calls Try.prog 17 #[.agg #[v, .int .i64 t, .int .i64 d], .int .i64 (k0 : Int)] u fun e u' => e = .returned (.int .i64 ((k0 + sumN LReplica l : Nat) : Int)) ∧ HeldS PT.treplica u' v k0 (sumN LReplica l) ∧ Turn lo hi u u' := by
  have Hc := Lib.hid (fun (W : World) (k : Below u.heap.size u W) => markReplicaS_l k0 h0 v l lo hi W (h.below k) hL)
  obtain ⟨p, c, rfl, -⟩ := h.rd.form
  clear h
  obtain ⟨K, hK⟩ : ∃ K, k0 + sumN LReplica l = K := ⟨_, rfl⟩
  generalize sumN LReplica l = L at *
  rw [hK] at Hc hL
  rw [hK]
  clear hK
  generalize l.length = n at *
  go_enter Try.func17, Try.ntmps17
  go_wp2_with fail
  refine (Hc.out _ (by (repeat (first | (with_reducible exact Below.refl _ _) | (with_reducible refine below_setCell ?_ (by first | (simp; done) | (simp; omega) | omega)) | (with_reducible refine below_alloc _ ?_) | (with_reducible refine below_drewN ?_ _) | (with_reducible assumption) | (with_reducible refine below_after (by assumption) ?_))))).mono ?_
  rintro e w1 ⟨rfl, hh, t1⟩
  have T1 : Hid (Turn lo hi u w1) := Lib.hid (turn_after (by (repeat (first | (with_reducible exact Below.refl _ _) | (with_reducible refine below_setCell ?_ (by first | (simp; done) | (simp; omega) | omega)) | (with_reducible refine below_alloc _ ?_) | (with_reducible refine below_drewN ?_ _) | (with_reducible assumption) | (with_reducible refine below_after (by assumption) ?_)))) t1)
  clear t1
  go_wp2
  go_ret
  exact ⟨rfl, hh, T1.out⟩

set_option maxRecDepth 100000 in
/-- laws.heldGroup -/
theorem heldGroup_any (k0 : Nat) (h0 : 0 < k0) (v : Value) (t d : Int) (L : Nat) (u : World) (h : HeldS PT.treplica u v k0 L) (hL : k0 + L ≤ 1073741824) :
    Calls Try.prog 18 #[.agg #[v, .int .i64 t, .int .i64 d], .int .i64 (k0 : Int)] u fun e u' => e = .returned (.int .i64 ((k0 + L : Nat) : Int)) ∧ Below u.heap.size u u' := by
  have Hc := Lib.hid (fun (W : World) (k : Below u.heap.size u W) => heldReplicaS_p k0 h0 v L W (h.below k) hL)
  obtain ⟨p, n, c, rfl, -⟩ := h.form
  clear h
  obtain ⟨K, hK⟩ : ∃ K, k0 + L = K := ⟨_, rfl⟩
  rw [hK] at Hc hL
  rw [hK]
  have hKn : (0 : Int) ≤ (K : Int) := by omega
  clear hK
  go_enter Try.func18, Try.ntmps18
  go_wp2_with fail
  refine (Hc.out _ (by (repeat (first | (with_reducible exact Below.refl _ _) | (with_reducible refine below_setCell ?_ (by first | (simp; done) | (simp; omega) | omega)) | (with_reducible refine below_alloc _ ?_) | (with_reducible refine below_drewN ?_ _) | (with_reducible assumption) | (with_reducible refine below_after (by assumption) ?_))))).mono ?_
  rintro e w1 ⟨rfl, k1⟩
  have b1 : Below u.heap.size u w1 := below_after k1 (by (repeat (first | (with_reducible exact Below.refl _ _) | (with_reducible refine below_setCell ?_ (by first | (simp; done) | (simp; omega) | omega)) | (with_reducible refine below_alloc _ ?_) | (with_reducible refine below_drewN ?_ _) | (with_reducible assumption) | (with_reducible refine below_after (by assumption) ?_))))
  clear k1
  go_wp2
  go_ret
  exact ⟨rfl, b1⟩

end Go.Proofs.Ytogdbjalgledpaa
