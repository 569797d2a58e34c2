/- Plain lemmas and contracts that all proofs of this seat lean on: bundle Recm. -/
import Derived.Test.YtpiheobpobclgaaGreatDoorLawM
import Derived.Test.YtpiheobpobclgaaGreatDoorMarks
import Derived.Test.YtpiheobpobclgaaGreatDoorTos
import Derived.Test.YtpiheobpobclgaaGreatDoorEqs
import Derived.Test.YtpiheobpobclgaaGreatDoorSizes
/- law level: laws.markStringS, laws.heldStringS. Printed by mkmark.py. -/
namespace Go.Proofs.YtpiheobpobclgaaGreatDoor
open Go.RowKit

theorem markStringS_l (k0 : Nat) (h0 : 0 < k0) (v : Value) (l : List ByteArray) (lo hi : Nat) (u : World) (h : OwnIn Cod.str u lo hi v l) (hL : k0 + sumN LString l ≤ 1073741824) :
    Calls Tryz.prog 23 #[v, .int .i64 (k0 : Int)] u fun e u' => e = .returned (.int .i64 ((k0 + sumN LString l : Nat) : Int)) ∧ HeldS PT.tstr u' v k0 (sumN LString l) ∧ Turn lo hi u u' := by
  obtain ⟨fp, h1, h2, h3, h4⟩ := h.marked fitsString
  refine (markStringS_p k0 h0 v fp u h1 h2 (by rw [h3]; exact hL)).mono ?_
  rintro e u' ⟨rfl, hs⟩
  exact ⟨by rw [h3], h4 u' k0 hs⟩

end Go.Proofs.YtpiheobpobclgaaGreatDoor


/- law level: laws.markWriteS, laws.heldWriteS. Printed by mkmark.py. -/
namespace Go.Proofs.YtpiheobpobclgaaGreatDoor
open Go.RowKit

theorem markWriteS_l (k0 : Nat) (h0 : 0 < k0) (v : Value) (l : List WriteD) (lo hi : Nat) (u : World) (h : OwnIn Cod.write u lo hi v l) (hL : k0 + sumN LWrite l ≤ 1073741824) :
    Calls Tryz.prog 24 #[v, .int .i64 (k0 : Int)] u fun e u' => e = .returned (.int .i64 ((k0 + sumN LWrite l : Nat) : Int)) ∧ HeldS PT.twrite u' v k0 (sumN LWrite l) ∧ Turn lo hi u u' := by
  obtain ⟨fp, h1, h2, h3, h4⟩ := h.marked fitsWrite
  refine (markWriteS_p k0 h0 v fp u h1 h2 (by rw [h3]; exact hL)).mono ?_
  rintro e u' ⟨rfl, hs⟩
  exact ⟨by rw [h3], h4 u' k0 hs⟩

end Go.Proofs.YtpiheobpobclgaaGreatDoor


/- toRec for the laws. -/
namespace Go.Proofs.YtpiheobpobclgaaGreatDoor
open Go.RowKit

theorem to_rds {w : World} {y : RecD} {a b : Value} {f : List Nat} (h : Cod.recd.rd w (lst [.int .i64 y.Kind, .int .i64 y.Txn, .int .i64 y.Time, .int .i64 y.Lead, a, b, .bool y.Yes]) y f) : Rd Cod.str w a y.Reads ∧ Rd Cod.write w b y.Writes := by
  obtain ⟨_, _, _, _, ⟨_, h1, r1⟩, ⟨_, h2, r2⟩, _⟩ := rd_recd h
  obtain rfl := Option.some.inj h1
  obtain rfl := Option.some.inj h2
  exact ⟨r1, r2⟩

end Go.Proofs.YtpiheobpobclgaaGreatDoor


/- Records in a law: read, kept, copied, marked. -/
namespace Go.Proofs.YtpiheobpobclgaaGreatDoor
open Go.RowKit

section
variable {α : Type} {c : Cod α} {w w' : World} {lo hi : Nat} {vs : List Value} {x : α}

/-- Values that read as x, by blocks from lo on, below hi. -/
def RIn (c : Cod α) (w : World) (lo hi : Nat) (vs : List Value) (x : α) : Prop := ∃ f, c.rd w (lst vs) x f ∧ ∀ d ∈ f, lo ≤ d ∧ d < hi
/-- Values of the call's own that do. -/
def ROwn (c : Cod α) (w : World) (lo hi : Nat) (vs : List Value) (x : α) : Prop := ∃ f, c.rd w (lst vs) x f ∧ Mine w lo f ∧ ∀ d ∈ f, d < hi

theorem ROwn.mono {lo' : Nat} (h : ROwn c w lo hi vs x) (k : lo' ≤ lo) : ROwn c w lo' hi vs x := by
  obtain ⟨f, h, m, r⟩ := h
  exact ⟨f, h, m.mono k, r⟩
theorem ROwn.inn (h : ROwn c w lo hi vs x) : RIn c w lo hi vs x := by
  obtain ⟨f, h, m, k⟩ := h
  exact ⟨f, h, fun d hd => ⟨m.low d hd, k d hd⟩⟩
theorem RIn.below (h : RIn c w lo hi vs x) (k : Below w.heap.size w w') : RIn c w' lo hi vs x := by
  obtain ⟨f, h, r⟩ := h
  exact ⟨f, c.frame (fun b hb => k.block b (c.old h b hb)) h, r⟩
theorem ROwn.below (h : ROwn c w lo hi vs x) (k : Below w.heap.size w w') : ROwn c w' lo hi vs x := by
  obtain ⟨f, h, m, r⟩ := h
  have hf := fun b hb => k.block b (c.old h b hb)
  exact ⟨f, c.frame hf h, m.frame hf, r⟩
theorem RIn.turn {a b : Nat} (h : RIn c w lo hi vs x) (k : Turn a b w w') (hd : hi ≤ a ∨ b ≤ lo) : RIn c w' lo hi vs x := by
  obtain ⟨f, h, r⟩ := h
  exact ⟨f, c.frame (fun d hdf => k.block d (c.old h d hdf) (by have := r d hdf; omega)) h, r⟩
theorem ROwn.turn {a b : Nat} (h : ROwn c w lo hi vs x) (k : Turn a b w w') (hd : hi ≤ a ∨ b ≤ lo) : ROwn c w' lo hi vs x := by
  obtain ⟨f, h, m, r⟩ := h
  have hf := fun d (hdf : d ∈ f) => k.block d (c.old h d hdf) (by have := r d hdf; have := m.low d hdf; omega)
  exact ⟨f, c.frame hf h, m.frame hf, r⟩
end

/-- A record's cells. -/
abbrev recVs (y : RecD) (a b : Value) : List Value := [.int .i64 y.Kind, .int .i64 y.Txn, .int .i64 y.Time, .int .i64 y.Lead, a, b, .bool y.Yes]

theorem RIn.rds {w : World} {lo hi : Nat} {y : RecD} {a b : Value} (h : RIn Cod.recd w lo hi (recVs y a b) y) : Rd Cod.str w a y.Reads ∧ Rd Cod.write w b y.Writes := by
  obtain ⟨f, h, _⟩ := h
  exact to_rds h
theorem RIn.rd1 {w : World} {lo hi : Nat} {y : RecD} {a b : Value} (h : RIn Cod.recd w lo hi (recVs y a b) y) : Rd Cod.str w a y.Reads := h.rds.1
theorem RIn.rd2 {w : World} {lo hi : Nat} {y : RecD} {a b : Value} (h : RIn Cod.recd w lo hi (recVs y a b) y) : Rd Cod.write w b y.Writes := h.rds.2
theorem ROwn.rd1 {w : World} {lo hi : Nat} {y : RecD} {a b : Value} (h : ROwn Cod.recd w lo hi (recVs y a b) y) : Rd Cod.str w a y.Reads := h.inn.rds.1
theorem ROwn.rd2 {w : World} {lo hi : Nat} {y : RecD} {a b : Value} (h : ROwn Cod.recd w lo hi (recVs y a b) y) : Rd Cod.write w b y.Writes := h.inn.rds.2
theorem rec_within {w : World} {y : RecD} {a b : Value} (i0 : I64 y.Kind) (i1 : I64 y.Txn) (i2 : I64 y.Time) (i3 : I64 y.Lead) (h1 : Rd Cod.str w a y.Reads) (h2 : Rd Cod.write w b y.Writes) : RIn Cod.recd w 0 w.heap.size (recVs y a b) y := by
  obtain ⟨f1, h1⟩ := h1
  obtain ⟨f2, h2⟩ := h2
  have h := mk_recd (w := w) (g := lst (recVs y a b)) (x := y) rfl i0 rfl i1 rfl i2 rfl i3 rfl h1 rfl h2 rfl
  exact ⟨_, h, fun d hd => ⟨Nat.zero_le _, Cod.recd.old h d hd⟩⟩

theorem costRec_le {y : RecD} (c : costRec y ≤ 1048576) : y.Reads.length ≤ 1048576 ∧ costWriteS y.Writes ≤ 1048576 ∧ y.Writes.length ≤ 1048576 := by
  unfold costRec costStringS costWriteS at *
  omega

theorem eqRec_o (y : RecD) (c : costRec y ≤ 1048576) (u : World) (p : Value) (r1 : Rd Cod.str u p y.Reads) (p' : Value) (r1' : Rd Cod.write u p' y.Writes) (q : Value) (r2 : Rd Cod.str u q y.Reads) (q' : Value) (r2' : Rd Cod.write u q' y.Writes) :
    Calls Tryz.prog 6 #[.agg #[.int .i64 y.Kind, .int .i64 y.Txn, .int .i64 y.Time, .int .i64 y.Lead, p, p', .bool y.Yes], .agg #[.int .i64 y.Kind, .int .i64 y.Txn, .int .i64 y.Time, .int .i64 y.Lead, q, q', .bool y.Yes]] u fun e w' => e = .returned (.bool true) ∧ Below u.heap.size u w' :=
  eqRec_d y (costRec_le c).1 (costRec_le c).2.2 u p r1 p' r1' q r2 q' r2'

/-- How many marks a record gets. -/
def LRecM (y : RecD) : Nat := sumN LString y.Reads + sumN LWrite y.Writes
theorem lenRecM (y : RecD) : LRecM y ≤ 6 * costRec y := by
  have h1 := lenString y.Reads
  have h2 := lenWrite y.Writes
  unfold LRecM costRec
  omega

theorem Turn.trans {lo hi : Nat} {a b d : World} (h : Turn lo hi a b) (k : Turn lo hi b d) : Turn lo hi a d :=
  ⟨k.os.trans h.os, k.tape.trans h.tape, k.output.trans h.output, Nat.le_trans h.size k.size, fun i h1 h2 => (k.block i (Nat.lt_of_lt_of_le h1 h.size) h2).trans (h.block i h1 h2)⟩
theorem Turn.after {lo hi : Nat} {a b d : World} (h : Below a.heap.size a b) (k : Turn lo hi b d) : Turn lo hi a d :=
  ⟨k.os.trans h.os, k.tape.trans h.tape, k.output.trans h.output, Nat.le_trans h.size k.size, fun i h1 h2 => (k.block i (Nat.lt_of_lt_of_le h1 h.size) h2).trans (h.block i h1)⟩

set_option maxRecDepth 100000 in
/-- laws.markRec -/
theorem markRec_b (k0 : Nat) (h0 : 0 < k0) (y : RecD) (a b : Value) (lo hi : Nat) (u : World) (hhi : hi ≤ u.heap.size) (h : ROwn Cod.recd u lo hi (recVs y a b) y) (hL : k0 + LRecM y ≤ 1073741824) :
    Calls Tryz.prog 7 #[.agg #[.int .i64 y.Kind, .int .i64 y.Txn, .int .i64 y.Time, .int .i64 y.Lead, a, b, .bool y.Yes], .int .i64 (k0 : Int)] u fun e u' => e = .returned (.int .i64 ((k0 + LRecM y : Nat) : Int)) ∧ Turn lo hi u u' := by
  obtain ⟨f, ⟨_, _, rfl, ⟨_, _, rfl⟩, ⟨_, _, rfl, ⟨_, _, rfl⟩, ⟨_, _, rfl, ⟨_, _, rfl⟩, ⟨_, _, rfl, ⟨_, _, rfl⟩, ⟨f1, _, rfl, ⟨u1, h4, s1⟩, ⟨f2, _, rfl, ⟨u2, h5, s2⟩, ⟨_, _, rfl⟩⟩⟩⟩⟩⟩⟩, hm, hlt⟩ := h
  have e4 : some a = some u1 := h4
  have e5 : some b = some u2 := h5
  injection e4 with e4
  injection e5 with e5
  subst e4 e5
  simp only [List.nil_append, List.append_nil] at hm hlt
  replace s1 : Cod.rdS Cod.str u a y.Reads f1 := s1
  replace s2 : Cod.rdS Cod.write u b y.Writes f2 := s2
  have m1 : Mine u lo f1 := ⟨(List.nodup_append.1 hm.nodup).1, fun d hd => hm.low d (List.mem_append_left _ hd), fun d hd => hm.free d (List.mem_append_left _ hd)⟩
  have m2 : Mine u lo f2 := ⟨(List.nodup_append.1 hm.nodup).2.1, fun d hd => hm.low d (List.mem_append_right _ hd), fun d hd => hm.free d (List.mem_append_right _ hd)⟩
  have hdis : ∀ d ∈ f1, d ∉ f2 := fun d h1 h2 => (List.nodup_append.1 hm.nodup).2.2 d h1 d h2 rfl
  have hl1 : ∀ d ∈ f1, d < hi := fun d hd => hlt d (List.mem_append_left _ hd)
  have hl2 : ∀ d ∈ f2, d < hi := fun d hd => hlt d (List.mem_append_right _ hd)
  unfold LRecM at hL ⊢
  have Hc1 : Hid (∀ W, Below u.heap.size u W → Calls Tryz.prog 23 #[a, .int .i64 (k0 : Int)] W fun e u' => e = .returned (.int .i64 ((k0 + sumN LString y.Reads : Nat) : Int)) ∧ Turn lo hi W u' ∧ OwnIn Cod.write u' lo hi b y.Writes) := Lib.hid fun W k => by
    have t1 := Cod.rdS_frame _ (fun d hd => k.block d (Cod.rdS_old _ s1 d hd)) s1
    have t2 := Cod.rdS_frame _ (fun d hd => k.block d (Cod.rdS_old _ s2 d hd)) s2
    have n1 : Mine W lo f1 := m1.frame (fun d hd => k.block d (Cod.rdS_old _ s1 d hd))
    have n2 : Mine W lo f2 := m2.frame (fun d hd => k.block d (Cod.rdS_old _ s2 d hd))
    have hs := fitsString.s t1
    refine (markStringS_p k0 h0 a f1 W hs.1 (n1.mono (Nat.zero_le _)) (by rw [hs.2]; omega)).mono ?_
    rintro e u' ⟨rfl, st⟩
    have hbl : ∀ d ∈ f2, u'.heap[d]? = W.heap[d]? := fun d hd => st.block d (Cod.rdS_old _ t2 d hd) fun x hx e => hdis _ (PT.planS_in hs.1 x hx) (e ▸ hd)
    refine ⟨by rw [hs.2], st.turn fun x hx => ?_, f2, Cod.rdS_frame _ hbl t2, n2.frame hbl, hl2⟩
    have := PT.planS_in hs.1 x hx
    exact ⟨n1.low _ this, hl1 _ this⟩
  obtain ⟨pa, na, ca, rfl⟩ : ∃ pa na ca, a = .slice pa na ca := by obtain ⟨a', cap, hv, _⟩ := s1; exact ⟨_, _, _, hv⟩
  obtain ⟨pb, nb, cb, rfl⟩ : ∃ pb nb cb, b = .slice pb nb cb := by obtain ⟨a', cap, hv, _⟩ := s2; exact ⟨_, _, _, hv⟩
  have Hc2 := Lib.hid (fun (W : World) (h : OwnIn Cod.write W lo hi (.slice pb nb cb) y.Writes) => markWriteS_l (k0 + sumN LString y.Reads) (by omega) (.slice pb nb cb) y.Writes lo hi W h (by omega))
  obtain ⟨L1, hL1⟩ : ∃ L1, k0 + sumN LString y.Reads = L1 := ⟨_, rfl⟩
  obtain ⟨L2, hL2⟩ : ∃ L2, k0 + (sumN LString y.Reads + sumN LWrite y.Writes) = L2 := ⟨_, rfl⟩
  rw [show k0 + sumN LString y.Reads + sumN LWrite y.Writes = L2 from by omega, hL1] at Hc2
  rw [hL1] at Hc1
  rw [hL2] at hL ⊢
  clear hL1 hL2 s1 s2 m1 m2 hm hlt hdis hl1 hl2 h4 h5
  obtain ⟨yK, yT, yTi, yL, yR, yW, yY⟩ := y
  dsimp only at *
  go_enter Tryz.func7, Tryz.ntmps7
  go_wp2_with fail
  refine (Hc1.out _ (by (repeat (first | (with_reducible exact Below.refl _ _) | (with_reducible refine below_setCell ?_ (by first | (simp; done) | (simp; omega) | omega)) | (with_reducible refine below_alloc _ ?_) | (with_reducible refine below_drewN ?_ _) | (with_reducible assumption) | (with_reducible refine below_after (by assumption) ?_))))).mono ?_
  rintro e w1 ⟨rfl, t1, o1⟩
  have T1 : Hid (Turn lo hi u w1) := Lib.hid (Turn.after (by (repeat (first | (with_reducible exact Below.refl _ _) | (with_reducible refine below_setCell ?_ (by first | (simp; done) | (simp; omega) | omega)) | (with_reducible refine below_alloc _ ?_) | (with_reducible refine below_drewN ?_ _) | (with_reducible assumption) | (with_reducible refine below_after (by assumption) ?_)))) t1)
  have c5 : w1.cell? ⟨u.heap.size, 5, none⟩ = some (.slice pb nb cb) := t1.cell (by simp [go_sem]) (Or.inr hhi)
  clear t1
  go_wp2_with fail
  refine (Hc2.out _ (o1.below (by (repeat (first | (with_reducible exact Below.refl _ _) | (with_reducible refine below_setCell ?_ (by first | (simp; done) | (simp; omega) | omega)) | (with_reducible refine below_alloc _ ?_) | (with_reducible refine below_drewN ?_ _) | (with_reducible assumption) | (with_reducible refine below_after (by assumption) ?_)))))).mono ?_
  rintro e w2 ⟨rfl, -, t2⟩
  have T2 := Lib.hid (T1.out.trans (Turn.after (by (repeat (first | (with_reducible exact Below.refl _ _) | (with_reducible refine below_setCell ?_ (by first | (simp; done) | (simp; omega) | omega)) | (with_reducible refine below_alloc _ ?_) | (with_reducible refine below_drewN ?_ _) | (with_reducible assumption) | (with_reducible refine below_after (by assumption) ?_)))) t2))
  go_wp2
  go_ret
  exact ⟨rfl, T2.out⟩

/-- laws.markRec -/
theorem markRec_l (k0 : Nat) (h0 : 0 < k0) (y : RecD) (a b : Value) (lo hi : Nat) (u : World) (h : ROwn Cod.recd u lo hi (recVs y a b) y) (hL : k0 + LRecM y ≤ 1073741824) :
    Calls Tryz.prog 7 #[.agg #[.int .i64 y.Kind, .int .i64 y.Txn, .int .i64 y.Time, .int .i64 y.Lead, a, b, .bool y.Yes], .int .i64 (k0 : Int)] u fun e u' => e = .returned (.int .i64 ((k0 + LRecM y : Nat) : Int)) ∧ Turn lo hi u u' := by
  obtain ⟨f, hr, hm, hlt⟩ := h
  refine (markRec_b k0 h0 y a b lo (min hi u.heap.size) u (Nat.min_le_right _ _) ⟨f, hr, hm, fun d hd => by have := hlt d hd; have := Cod.recd.old hr d hd; omega⟩ hL).mono ?_
  rintro e u' ⟨rfl, t⟩
  exact ⟨rfl, t.os, t.tape, t.output, t.size, fun d h1 h2 => t.block d h1 (by omega)⟩

end Go.Proofs.YtpiheobpobclgaaGreatDoor

