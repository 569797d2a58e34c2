/- Plain lemmas and contracts that all proofs of this seat lean on: bundle Copyl. -/
import Derived.Test.YtfaefjdlfjhniaaRowd
import Derived.Lib.SliceRun
import Derived.Test.YtfaefjdlfjhniaaTos
import Derived.Deep.RegionWith
import Derived.Deep.DeepCutAuto
import Derived.Deep.RegionLaw
import Derived.Test.YtfaefjdlfjhniaaGoodr
import Derived.Test.YtfaefjdlfjhniaaKit
/- slices.Clone of a list of string. Printed by mkclone.py. -/
namespace Go.Proofs.Ytfaefjdlfjhniaa
open Go.RowKit

theorem Try_infoC_String : (Try.prog.info? 9).map (fun i => (i.zero, i.size, i.bytes)) = some (some (.string ⟨#[]⟩), 1, 16) := by kernel_rfl

set_option maxRecDepth 100000 in
/-- slices.Clone -/
theorem cloneString_p (v : Value) (l : List ByteArray) (hl : l.length ≤ 1048576) (w : World) (h : Rd Cod.str w v l) :
    Calls Try.prog 58 #[v] w fun e w' => ∃ v' cells, e = .returned v' ∧ PartC Cod.str w' w.heap.size 9 v' l.length l cells ∧ Below w.heap.size w w' := by
  obtain ⟨i0, hi, hz0, hz1, hz2⟩ := info_parts Try_infoC_String
  have hr := Lib.hid h
  obtain ⟨p, c, rfl, _, _, hn⟩ : ∃ p c, v = .slice p l.length c ∧ l.length ≤ c ∧ c ≤ maxLen ∧ (p = none → c = 0) := by
    obtain ⟨fp, a', cap, hv, h1, h2, h3, _⟩ := h
    exact ⟨a', cap, hv, h1, h2, h3⟩
  rcases p with _ | ad
  · have hc0 := hn rfl
    subst hc0
    have hy : l = [] := List.eq_nil_of_length_eq_zero (by omega)
    subst hy
    clear h hn
    have heq := fun (W : World) (r : Option Addr) (n c : Nat) => Lib.run_eql_slice_nil (P := Try.prog) W 33 _ r n c 0 0 Try.underlying33
    go_enter Try.func58, Try.ntmps58
    go_wp2
    go_ret
    exact ⟨_, [], rfl, part_start (World.ownsRow_nil _ _ _ _), Below.refl _ _⟩
  · clear h hn
    obtain ⟨n, hn⟩ : ∃ n : Nat, l.length = n := ⟨_, rfl⟩
    have Hn := Lib.hid hn
    have hb : (0 + l.length) * 16 ≤ room := by unfold room; omega
    have Hb := Lib.hid hb
    have Hr2 : Hid (∀ (u : World), Below w.heap.size w u → Rd Cod.str u (.slice (some ad) n c) l) := Lib.hid fun u k => by have := hr.out.below k; rwa [hn] at this
    clear hb hr
    rw [hn]
    clear hn hl
    have heq := fun (W : World) (r : Option Addr) (n c : Nat) => Lib.run_eql_slice_nil (P := Try.prog) W 33 _ r n c 0 0 Try.underlying33
    go_enter Try.func58, Try.ntmps58
    go_wp2_with (at_builtin; refine wpList_append_flat (c := Cod.str) flat_str _ rfl _ _ 33 (by rfl) w.heap.size 9 i0 (.string ⟨#[]⟩) 16 Try.underlying33 hi hz0 hz1 hz2 rfl (by decide) (by decide) _ (.slice (some ⟨w.heap.size, 0, none⟩) 0 0) 0 [] [] (by rfl) (part_start (World.ownsRow_made _ _ _ (Nat.le_refl _) (by simp) rfl)) rfl (Below.refl _ _) (.slice (some ad) n c) l (by rfl) (Hr2.out _ (below_new _ _)) Hb.out (by simp) ?_)
    intro p' c' w' cells' hP hb'
    have HP := Lib.hid hP
    clear hP
    have hb2 : Below w.heap.size w w' := (below_new _ _).trans hb'
    clear hb'
    go_wp2
    go_ret
    have h3 := HP.out
    (try simp only [Nat.zero_add, List.nil_append] at h3 ⊢)
    exact ⟨_, _, rfl, by rw [← Hn.out]; exact h3, hb2⟩

/-- slices.Clone -/
theorem cloneString_any (v : Value) (l : List ByteArray) (hl : l.length ≤ 1048576) (w : World) (h : Rd Cod.str w v l) :
    Calls Try.prog 58 #[v] w fun e w' => ∃ v', e = .returned v' ∧ Own Cod.str w' w.heap.size v' l ∧ Below w.heap.size w w' :=
  (cloneString_p v l hl w h).mono fun _ _ ⟨v', _, he, hp, hb⟩ => ⟨v', he, hp.own rfl, hb⟩

end Go.Proofs.Ytfaefjdlfjhniaa


/- slices.Clone of a list of impl.Write. Printed by mkclone.py. -/
namespace Go.Proofs.Ytfaefjdlfjhniaa
open Go.RowKit

theorem Try_infoC_Write : (Try.prog.info? 79).map (fun i => (i.zero, i.size, i.bytes)) = some (some (.agg #[.string ⟨#[]⟩, .string ⟨#[]⟩, .bool false]), 3, 40) := by kernel_rfl

set_option maxRecDepth 100000 in
/-- slices.Clone -/
theorem cloneWrite_p (v : Value) (l : List WriteD) (hl : l.length ≤ 1048576) (w : World) (h : Rd Cod.write w v l) :
    Calls Try.prog 59 #[v] w fun e w' => ∃ v' cells, e = .returned v' ∧ PartC Cod.write w' w.heap.size 79 v' l.length l cells ∧ Below w.heap.size w w' := by
  obtain ⟨i0, hi, hz0, hz1, hz2⟩ := info_parts Try_infoC_Write
  have hr := Lib.hid h
  obtain ⟨p, c, rfl, _, _, hn⟩ : ∃ p c, v = .slice p l.length c ∧ l.length ≤ c ∧ c ≤ maxLen ∧ (p = none → c = 0) := by
    obtain ⟨fp, a', cap, hv, h1, h2, h3, _⟩ := h
    exact ⟨a', cap, hv, h1, h2, h3⟩
  rcases p with _ | ad
  · have hc0 := hn rfl
    subst hc0
    have hy : l = [] := List.eq_nil_of_length_eq_zero (by omega)
    subst hy
    clear h hn
    have heq := fun (W : World) (r : Option Addr) (n c : Nat) => Lib.run_eql_slice_nil (P := Try.prog) W 34 _ r n c 0 0 Try.underlying34
    go_enter Try.func59, Try.ntmps59
    go_wp2
    go_ret
    exact ⟨_, [], rfl, part_start (World.ownsRow_nil _ _ _ _), Below.refl _ _⟩
  · clear h hn
    obtain ⟨n, hn⟩ : ∃ n : Nat, l.length = n := ⟨_, rfl⟩
    have Hn := Lib.hid hn
    have hb : (0 + l.length) * 40 ≤ room := by unfold room; omega
    have Hb := Lib.hid hb
    have Hr2 : Hid (∀ (u : World), Below w.heap.size w u → Rd Cod.write u (.slice (some ad) n c) l) := Lib.hid fun u k => by have := hr.out.below k; rwa [hn] at this
    clear hb hr
    rw [hn]
    clear hn hl
    have heq := fun (W : World) (r : Option Addr) (n c : Nat) => Lib.run_eql_slice_nil (P := Try.prog) W 34 _ r n c 0 0 Try.underlying34
    go_enter Try.func59, Try.ntmps59
    go_wp2_with (at_builtin; refine wpList_append_flat (c := Cod.write) flat_write _ rfl _ _ 34 (by rfl) w.heap.size 79 i0 (.agg #[.string ⟨#[]⟩, .string ⟨#[]⟩, .bool false]) 40 Try.underlying34 hi hz0 hz1 hz2 rfl (by decide) (by decide) _ (.slice (some ⟨w.heap.size, 0, none⟩) 0 0) 0 [] [] (by rfl) (part_start (World.ownsRow_made _ _ _ (Nat.le_refl _) (by simp) rfl)) rfl (Below.refl _ _) (.slice (some ad) n c) l (by rfl) (Hr2.out _ (below_new _ _)) Hb.out (by simp) ?_)
    intro p' c' w' cells' hP hb'
    have HP := Lib.hid hP
    clear hP
    have hb2 : Below w.heap.size w w' := (below_new _ _).trans hb'
    clear hb'
    go_wp2
    go_ret
    have h3 := HP.out
    (try simp only [Nat.zero_add, List.nil_append] at h3 ⊢)
    exact ⟨_, _, rfl, by rw [← Hn.out]; exact h3, hb2⟩

/-- slices.Clone -/
theorem cloneWrite_any (v : Value) (l : List WriteD) (hl : l.length ≤ 1048576) (w : World) (h : Rd Cod.write w v l) :
    Calls Try.prog 59 #[v] w fun e w' => ∃ v', e = .returned v' ∧ Own Cod.write w' w.heap.size v' l ∧ Below w.heap.size w w' :=
  (cloneWrite_p v l hl w h).mono fun _ _ ⟨v', _, he, hp, hb⟩ => ⟨v', he, hp.own rfl, hb⟩

end Go.Proofs.Ytfaefjdlfjhniaa


/- impl.copyRec, impl.copyEntries. Printed by mkcopy.py. -/
namespace Go.Proofs.Ytfaefjdlfjhniaa
open Go.RowKit

set_option maxRecDepth 100000 in
set_option maxHeartbeats 1600000 in
/-- impl.copyRec -/
theorem copyRec_d (x : RecD) (zKind : I64 x.Kind) (zTxn : I64 x.Txn) (zTime : I64 x.Time) (zLead : I64 x.Lead) (lReads : x.Reads.length ≤ 1048576) (lWrites : x.Writes.length ≤ 1048576) (w : World) (uReads : Value) (rReads : Rd (Cod.str) w uReads x.Reads) (uWrites : Value) (rWrites : Rd (Cod.write) w uWrites x.Writes) :
    Calls Try.prog 36 #[.agg #[.int .i64 x.Kind, .int .i64 x.Txn, .int .i64 x.Time, .int .i64 x.Lead, uReads, uWrites, .bool x.Yes]] w fun e w' => ToRec x w.heap.size e w' ∧ Below w.heap.size w w' := by
  unfold ToRec
  have Hm := Lib.hid (fun (W : World) (uReads : Value) (fReads : List Nat) (rReads : Cod.rdS (Cod.str) W uReads x.Reads fReads) (uWrites : Value) (fWrites : List Nat) (rWrites : Cod.rdS (Cod.write) W uWrites x.Writes fWrites) => mk_recd (w := W) (g := lst [.int .i64 x.Kind, .int .i64 x.Txn, .int .i64 x.Time, .int .i64 x.Lead, uReads, uWrites, .bool x.Yes]) (x := x) rfl zKind rfl zTxn rfl zTime rfl zLead rfl rReads rfl rWrites rfl)
  obtain ⟨xKind, xTxn, xTime, xLead, xReads, xWrites, xYes⟩ := x
  simp only at *
  have HReads := Lib.hid (fun (w : World) (r : Rd (Cod.str) w uReads xReads) => cloneString_any uReads xReads lReads w r)
  have HWrites := Lib.hid (fun (w : World) (r : Rd (Cod.write) w uWrites xWrites) => cloneWrite_any uWrites xWrites lWrites w r)
  go_enter Try.func36, Try.ntmps36
  go_wp2_with fail
  refine (HReads.out _ (rReads.below (by (repeat (first | exact Below.refl _ _ | exact below_new _ _ | refine below_setCell ?_ (by first | (simp; done) | (simp; omega) | omega) | refine below_alloc _ ?_ | refine below_drewN ?_ _ | refine below_after (by assumption) ?_ | assumption))))).mono ?_
  rintro e w1 ⟨uReads', rfl, o1, k1⟩
  obtain ⟨pReads', cReads', rfl⟩ := o1.form
  have b1 : Below w.heap.size w w1 := below_after k1 (by (repeat (first | exact Below.refl _ _ | exact below_new _ _ | refine below_setCell ?_ (by first | (simp; done) | (simp; omega) | omega) | refine below_alloc _ ?_ | refine below_drewN ?_ _ | refine below_after (by assumption) ?_ | assumption)))
  have a0 : w1.cell? ⟨w.heap.size, 0, none⟩ = some (.int .i64 xKind) := by rw [(bcell k1).1 _ _ (by first | (simp; done) | (simp; omega) | omega)]; simp [go_sem]
  have af0 : w1.frozen? ⟨w.heap.size, 0, none⟩ = false := by rw [(bcell k1).2 _ _ (by first | (simp; done) | (simp; omega) | omega)]; simp [go_sem]
  have a1 : w1.cell? ⟨w.heap.size, 1, none⟩ = some (.int .i64 xTxn) := by rw [(bcell k1).1 _ _ (by first | (simp; done) | (simp; omega) | omega)]; simp [go_sem]
  have af1 : w1.frozen? ⟨w.heap.size, 1, none⟩ = false := by rw [(bcell k1).2 _ _ (by first | (simp; done) | (simp; omega) | omega)]; simp [go_sem]
  have a2 : w1.cell? ⟨w.heap.size, 2, none⟩ = some (.int .i64 xTime) := by rw [(bcell k1).1 _ _ (by first | (simp; done) | (simp; omega) | omega)]; simp [go_sem]
  have af2 : w1.frozen? ⟨w.heap.size, 2, none⟩ = false := by rw [(bcell k1).2 _ _ (by first | (simp; done) | (simp; omega) | omega)]; simp [go_sem]
  have a3 : w1.cell? ⟨w.heap.size, 3, none⟩ = some (.int .i64 xLead) := by rw [(bcell k1).1 _ _ (by first | (simp; done) | (simp; omega) | omega)]; simp [go_sem]
  have af3 : w1.frozen? ⟨w.heap.size, 3, none⟩ = false := by rw [(bcell k1).2 _ _ (by first | (simp; done) | (simp; omega) | omega)]; simp [go_sem]
  have a4 : w1.cell? ⟨w.heap.size, 4, none⟩ = some (uReads) := by rw [(bcell k1).1 _ _ (by first | (simp; done) | (simp; omega) | omega)]; simp [go_sem]
  have af4 : w1.frozen? ⟨w.heap.size, 4, none⟩ = false := by rw [(bcell k1).2 _ _ (by first | (simp; done) | (simp; omega) | omega)]; simp [go_sem]
  have a5 : w1.cell? ⟨w.heap.size, 5, none⟩ = some (uWrites) := by rw [(bcell k1).1 _ _ (by first | (simp; done) | (simp; omega) | omega)]; simp [go_sem]
  have af5 : w1.frozen? ⟨w.heap.size, 5, none⟩ = false := by rw [(bcell k1).2 _ _ (by first | (simp; done) | (simp; omega) | omega)]; simp [go_sem]
  have a6 : w1.cell? ⟨w.heap.size, 6, none⟩ = some (.bool xYes) := by rw [(bcell k1).1 _ _ (by first | (simp; done) | (simp; omega) | omega)]; simp [go_sem]
  have af6 : w1.frozen? ⟨w.heap.size, 6, none⟩ = false := by rw [(bcell k1).2 _ _ (by first | (simp; done) | (simp; omega) | omega)]; simp [go_sem]
  have z0 : w1.cell? ⟨w.heap.size + 1, 0, none⟩ = some (.int .i64 0) := by rw [(bcell k1).1 _ _ (by first | (simp; done) | (simp; omega) | omega)]; simp [go_sem]
  have zf0 : w1.frozen? ⟨w.heap.size + 1, 0, none⟩ = false := by rw [(bcell k1).2 _ _ (by first | (simp; done) | (simp; omega) | omega)]; simp [go_sem]
  have z1 : w1.cell? ⟨w.heap.size + 1, 1, none⟩ = some (.int .i64 0) := by rw [(bcell k1).1 _ _ (by first | (simp; done) | (simp; omega) | omega)]; simp [go_sem]
  have zf1 : w1.frozen? ⟨w.heap.size + 1, 1, none⟩ = false := by rw [(bcell k1).2 _ _ (by first | (simp; done) | (simp; omega) | omega)]; simp [go_sem]
  have z2 : w1.cell? ⟨w.heap.size + 1, 2, none⟩ = some (.int .i64 0) := by rw [(bcell k1).1 _ _ (by first | (simp; done) | (simp; omega) | omega)]; simp [go_sem]
  have zf2 : w1.frozen? ⟨w.heap.size + 1, 2, none⟩ = false := by rw [(bcell k1).2 _ _ (by first | (simp; done) | (simp; omega) | omega)]; simp [go_sem]
  have z3 : w1.cell? ⟨w.heap.size + 1, 3, none⟩ = some (.int .i64 0) := by rw [(bcell k1).1 _ _ (by first | (simp; done) | (simp; omega) | omega)]; simp [go_sem]
  have zf3 : w1.frozen? ⟨w.heap.size + 1, 3, none⟩ = false := by rw [(bcell k1).2 _ _ (by first | (simp; done) | (simp; omega) | omega)]; simp [go_sem]
  have z4 : w1.cell? ⟨w.heap.size + 1, 4, none⟩ = some (.slice none 0 0) := by rw [(bcell k1).1 _ _ (by first | (simp; done) | (simp; omega) | omega)]; simp [go_sem]
  have zf4 : w1.frozen? ⟨w.heap.size + 1, 4, none⟩ = false := by rw [(bcell k1).2 _ _ (by first | (simp; done) | (simp; omega) | omega)]; simp [go_sem]
  have z5 : w1.cell? ⟨w.heap.size + 1, 5, none⟩ = some (.slice none 0 0) := by rw [(bcell k1).1 _ _ (by first | (simp; done) | (simp; omega) | omega)]; simp [go_sem]
  have zf5 : w1.frozen? ⟨w.heap.size + 1, 5, none⟩ = false := by rw [(bcell k1).2 _ _ (by first | (simp; done) | (simp; omega) | omega)]; simp [go_sem]
  have z6 : w1.cell? ⟨w.heap.size + 1, 6, none⟩ = some (.bool false) := by rw [(bcell k1).1 _ _ (by first | (simp; done) | (simp; omega) | omega)]; simp [go_sem]
  have zf6 : w1.frozen? ⟨w.heap.size + 1, 6, none⟩ = false := by rw [(bcell k1).2 _ _ (by first | (simp; done) | (simp; omega) | omega)]; simp [go_sem]
  have q10 : w.heap.size < w1.heap.size := by have := k1.size; first | (simp at this; omega) | omega
  have q11 : w.heap.size + 1 < w1.heap.size := by have := k1.size; first | (simp at this; omega) | omega
  replace o1 := o1.mono (base' := w.heap.size + 2) (by simp)
  go_wp2_with fail
  refine (HWrites.out _ (rWrites.below (below_link b1 (Below.refl _ _) (by (repeat (first | exact Below.refl _ _ | refine Below.setCell ?_ (by have := b1.size; first | (simp at this ⊢; omega) | (simp; omega) | omega | (simp; done)) _ | refine Below.alloc ?_ (by have := b1.size; first | (simp at this ⊢; omega) | (simp; omega) | omega) _ | refine below_drewN ?_ _)))))).mono ?_
  rintro e w2 ⟨uWrites', rfl, o2, k2⟩
  obtain ⟨pWrites', cWrites', rfl⟩ := o2.form
  have b2 : Below w.heap.size w w2 := below_link b1 k2 (by (repeat (first | exact Below.refl _ _ | refine Below.setCell ?_ (by have := b1.size; first | (simp at this ⊢; omega) | (simp; omega) | omega | (simp; done)) _ | refine Below.alloc ?_ (by have := b1.size; first | (simp at this ⊢; omega) | (simp; omega) | omega) _ | refine below_drewN ?_ _)))
  have c0 : w2.cell? ⟨w.heap.size, 0, none⟩ = some (.int .i64 xKind) := by rw [(bcell k2).1 _ _ (by first | (simp; done) | (simp; omega) | omega)]; simp [go_sem, a0]
  have cf0 : w2.frozen? ⟨w.heap.size, 0, none⟩ = false := by rw [(bcell k2).2 _ _ (by first | (simp; done) | (simp; omega) | omega)]; simp [go_sem, af0]
  have c1 : w2.cell? ⟨w.heap.size, 1, none⟩ = some (.int .i64 xTxn) := by rw [(bcell k2).1 _ _ (by first | (simp; done) | (simp; omega) | omega)]; simp [go_sem, a1]
  have cf1 : w2.frozen? ⟨w.heap.size, 1, none⟩ = false := by rw [(bcell k2).2 _ _ (by first | (simp; done) | (simp; omega) | omega)]; simp [go_sem, af1]
  have c2 : w2.cell? ⟨w.heap.size, 2, none⟩ = some (.int .i64 xTime) := by rw [(bcell k2).1 _ _ (by first | (simp; done) | (simp; omega) | omega)]; simp [go_sem, a2]
  have cf2 : w2.frozen? ⟨w.heap.size, 2, none⟩ = false := by rw [(bcell k2).2 _ _ (by first | (simp; done) | (simp; omega) | omega)]; simp [go_sem, af2]
  have c3 : w2.cell? ⟨w.heap.size, 3, none⟩ = some (.int .i64 xLead) := by rw [(bcell k2).1 _ _ (by first | (simp; done) | (simp; omega) | omega)]; simp [go_sem, a3]
  have cf3 : w2.frozen? ⟨w.heap.size, 3, none⟩ = false := by rw [(bcell k2).2 _ _ (by first | (simp; done) | (simp; omega) | omega)]; simp [go_sem, af3]
  have c4 : w2.cell? ⟨w.heap.size, 4, none⟩ = some (.slice pReads' xReads.length cReads') := by rw [(bcell k2).1 _ _ (by first | (simp; done) | (simp; omega) | omega)]; simp [go_sem, a4]
  have cf4 : w2.frozen? ⟨w.heap.size, 4, none⟩ = false := by rw [(bcell k2).2 _ _ (by first | (simp; done) | (simp; omega) | omega)]; simp [go_sem, af4]
  have c5 : w2.cell? ⟨w.heap.size, 5, none⟩ = some (uWrites) := by rw [(bcell k2).1 _ _ (by first | (simp; done) | (simp; omega) | omega)]; simp [go_sem, a5]
  have cf5 : w2.frozen? ⟨w.heap.size, 5, none⟩ = false := by rw [(bcell k2).2 _ _ (by first | (simp; done) | (simp; omega) | omega)]; simp [go_sem, af5]
  have c6 : w2.cell? ⟨w.heap.size, 6, none⟩ = some (.bool xYes) := by rw [(bcell k2).1 _ _ (by first | (simp; done) | (simp; omega) | omega)]; simp [go_sem, a6]
  have cf6 : w2.frozen? ⟨w.heap.size, 6, none⟩ = false := by rw [(bcell k2).2 _ _ (by first | (simp; done) | (simp; omega) | omega)]; simp [go_sem, af6]
  have y0 : w2.cell? ⟨w.heap.size + 1, 0, none⟩ = some (.int .i64 0) := by rw [(bcell k2).1 _ _ (by first | (simp; done) | (simp; omega) | omega)]; simp [go_sem, z0]
  have yf0 : w2.frozen? ⟨w.heap.size + 1, 0, none⟩ = false := by rw [(bcell k2).2 _ _ (by first | (simp; done) | (simp; omega) | omega)]; simp [go_sem, zf0]
  have y1 : w2.cell? ⟨w.heap.size + 1, 1, none⟩ = some (.int .i64 0) := by rw [(bcell k2).1 _ _ (by first | (simp; done) | (simp; omega) | omega)]; simp [go_sem, z1]
  have yf1 : w2.frozen? ⟨w.heap.size + 1, 1, none⟩ = false := by rw [(bcell k2).2 _ _ (by first | (simp; done) | (simp; omega) | omega)]; simp [go_sem, zf1]
  have y2 : w2.cell? ⟨w.heap.size + 1, 2, none⟩ = some (.int .i64 0) := by rw [(bcell k2).1 _ _ (by first | (simp; done) | (simp; omega) | omega)]; simp [go_sem, z2]
  have yf2 : w2.frozen? ⟨w.heap.size + 1, 2, none⟩ = false := by rw [(bcell k2).2 _ _ (by first | (simp; done) | (simp; omega) | omega)]; simp [go_sem, zf2]
  have y3 : w2.cell? ⟨w.heap.size + 1, 3, none⟩ = some (.int .i64 0) := by rw [(bcell k2).1 _ _ (by first | (simp; done) | (simp; omega) | omega)]; simp [go_sem, z3]
  have yf3 : w2.frozen? ⟨w.heap.size + 1, 3, none⟩ = false := by rw [(bcell k2).2 _ _ (by first | (simp; done) | (simp; omega) | omega)]; simp [go_sem, zf3]
  have y4 : w2.cell? ⟨w.heap.size + 1, 4, none⟩ = some (.slice none 0 0) := by rw [(bcell k2).1 _ _ (by first | (simp; done) | (simp; omega) | omega)]; simp [go_sem, z4]
  have yf4 : w2.frozen? ⟨w.heap.size + 1, 4, none⟩ = false := by rw [(bcell k2).2 _ _ (by first | (simp; done) | (simp; omega) | omega)]; simp [go_sem, zf4]
  have y5 : w2.cell? ⟨w.heap.size + 1, 5, none⟩ = some (.slice none 0 0) := by rw [(bcell k2).1 _ _ (by first | (simp; done) | (simp; omega) | omega)]; simp [go_sem, z5]
  have yf5 : w2.frozen? ⟨w.heap.size + 1, 5, none⟩ = false := by rw [(bcell k2).2 _ _ (by first | (simp; done) | (simp; omega) | omega)]; simp [go_sem, zf5]
  have y6 : w2.cell? ⟨w.heap.size + 1, 6, none⟩ = some (.bool false) := by rw [(bcell k2).1 _ _ (by first | (simp; done) | (simp; omega) | omega)]; simp [go_sem, z6]
  have yf6 : w2.frozen? ⟨w.heap.size + 1, 6, none⟩ = false := by rw [(bcell k2).2 _ _ (by first | (simp; done) | (simp; omega) | omega)]; simp [go_sem, zf6]
  have q20 : w.heap.size < w2.heap.size := by have := k2.size; first | (simp at this; omega) | omega
  have q21 : w.heap.size + 1 < w2.heap.size := by have := k2.size; first | (simp at this; omega) | omega
  replace o2 := o2.mono (base' := w1.heap.size) (by first | (simp; done) | omega | (simp; omega))
  clear a0 af0 z0 zf0 a1 af1 z1 zf1 a2 af2 z2 zf2 a3 af3 z3 zf3 a4 af4 z4 zf4 a5 af5 z5 zf5 a6 af6 z6 zf6
  have e2 : Keep (w.heap.size + 2) w1 w2 := keep_below k2 (by (repeat (first | (with_reducible exact Keep.refl _ _) | (with_reducible refine keep_set ?_ (by first | (simp; done) | (simp; omega) | omega)) | (with_reducible refine keep_alloc _ ?_) | (with_reducible refine keep_drewN ?_ _) | (with_reducible assumption) | (with_reducible refine keep_below (by assumption) ?_))))
  go_wp2
  obtain ⟨f1, s1, m1⟩ := o1
  obtain ⟨f2, s2, m2⟩ := o2
  refine bodyPost_ret (v := .agg #[.int .i64 xKind, .int .i64 xTxn, .int .i64 xTime, .int .i64 xLead, .slice pReads' xReads.length cReads', .slice pWrites' xWrites.length cWrites', .bool xYes]) (by simp [results, Try.results36, go_sem, y0, yf0, y1, yf1, y2, yf2, y3, yf3, y4, yf4, y5, yf5, y6, yf6]) rfl ⟨⟨pReads', cReads', pWrites', cWrites', _, rfl, Hm.out _ _ f1 ?r1 _ f2 ?r2, ?_⟩, ?_⟩
  case r1 => exact rdS_keep s1 m1 (B := w.heap.size + 2) (by omega) (by (repeat (first | (with_reducible exact Keep.refl _ _) | (with_reducible refine keep_set ?_ (by first | (simp; done) | (simp; omega) | omega)) | (with_reducible refine keep_alloc _ ?_) | (with_reducible refine keep_drewN ?_ _) | (with_reducible assumption) | (with_reducible refine keep_below (by assumption) ?_))))
  case r2 => exact rdS_keep s2 m2 (B := w.heap.size + 2) (by omega) (by (repeat (first | (with_reducible exact Keep.refl _ _) | (with_reducible refine keep_set ?_ (by first | (simp; done) | (simp; omega) | omega)) | (with_reducible refine keep_alloc _ ?_) | (with_reducible refine keep_drewN ?_ _) | (with_reducible assumption) | (with_reducible refine keep_below (by assumption) ?_))))
  · refine ((m1.keep (B := w.heap.size + 2) (by omega) (Cod.rdS_old _ s1) (by (repeat (first | (with_reducible exact Keep.refl _ _) | (with_reducible refine keep_set ?_ (by first | (simp; done) | (simp; omega) | omega)) | (with_reducible refine keep_alloc _ ?_) | (with_reducible refine keep_drewN ?_ _) | (with_reducible assumption) | (with_reducible refine keep_below (by assumption) ?_))))).mono (by omega)).app (((m2.keep (B := w.heap.size + 2) (by omega) (Cod.rdS_old _ s2) (by (repeat (first | (with_reducible exact Keep.refl _ _) | (with_reducible refine keep_set ?_ (by first | (simp; done) | (simp; omega) | omega)) | (with_reducible refine keep_alloc _ ?_) | (with_reducible refine keep_drewN ?_ _) | (with_reducible assumption) | (with_reducible refine keep_below (by assumption) ?_))))).mono (by omega)).app (Mine.nil _ _) (fun _ _ h => by cases h)) (fun b h1 h2 => ?_)
    have := Cod.rdS_old _ s1 b h1
    have := m2.low b (by simpa using h2)
    omega
  · (repeat (first | (with_reducible exact Below.refl _ _) | (with_reducible refine below_setCell ?_ (by first | (simp; done) | (simp; omega) | omega)) | (with_reducible refine below_alloc _ ?_) | (with_reducible refine below_drewN ?_ _) | (with_reducible assumption) | (with_reducible refine below_after (by assumption) ?_)))

end Go.Proofs.Ytfaefjdlfjhniaa


/- impl.copyEntries. -/
namespace Go.Proofs.Ytfaefjdlfjhniaa
open Go.RowKit

/-- What copyRec gives, inside an entry. -/
def EntRet (x : EntryD) (base : Nat) (e : Ending) (w' : World) : Prop :=
  ∃ pR cR pW cW f, e = .returned (.agg #[.int .i64 x.Rec.Kind, .int .i64 x.Rec.Txn, .int .i64 x.Rec.Time, .int .i64 x.Rec.Lead, .slice pR x.Rec.Reads.length cR, .slice pW x.Rec.Writes.length cW, .bool x.Rec.Yes]) ∧ Cod.entry.rd w' (lst [.int .i64 x.Term, .int .i64 x.Rec.Kind, .int .i64 x.Rec.Txn, .int .i64 x.Rec.Time, .int .i64 x.Rec.Lead, .slice pR x.Rec.Reads.length cR, .slice pW x.Rec.Writes.length cW, .bool x.Rec.Yes]) x f ∧ Mine w' base f
theorem entRet_of {x : EntryD} (zTerm : I64 x.Term) {base : Nat} {e : Ending} {w' : World} (h : ToRec x.Rec base e w') : EntRet x base e w' := by
  obtain ⟨pR, cR, pW, cW, f, he, hx, hm⟩ := h
  refine ⟨pR, cR, pW, cW, f, he, ⟨[], f, rfl, ⟨rfl, zTerm, rfl⟩, Cod.recd.ext (fun j _ => ?_) hx⟩, hm⟩
  show (lst _) j = (lst _) (1 + j)
  rw [Nat.add_comm]
  rfl

set_option maxRecDepth 100000 in
set_option maxHeartbeats 3200000 in
/-- impl.copyEntries -/
theorem copyEntries_r (v : Value) (l : List EntryD) (hl : costEntryS l ≤ 1048576) (w : World) (h : Rd Cod.entry w v l) :
    Calls Try.prog 37 #[v] w fun e w' => ∃ v', e = .returned v' ∧ OwnR Cod.entry w' w.heap.size v' l ∧ Below w.heap.size w w' := by
  obtain ⟨i0, hi, hz0, hz1, hz2⟩ := info_parts Try_info_entry
  obtain ⟨p, c, rfl, hlc, hcm, r⟩ := h.form
  have R := Lib.hid r
  clear r h hlc hcm
  have Hc := Lib.hid hl
  obtain ⟨n, hn⟩ : ∃ n : Nat, l.length = n := ⟨_, rfl⟩
  have Hn := Lib.hid hn
  have hnb : (n : Int) ≤ 1048576 := by unfold costEntryS at hl; omega
  rw [hn]
  clear hn hl
  have hb16 : i0.bytes * n ≤ 281474976710656 := by rw [hz2]; omega
  go_enter Try.func37, Try.ntmps37
  go_wp2_with (refine wpList_make_full w rfl _ _ 39 (by rfl) w.heap.size 61 i0 (.agg #[.int .i64 0, .int .i64 0, .int .i64 0, .int .i64 0, .int .i64 0, .slice none 0 0, .slice none 0 0, .bool false]) 8 Try.underlying39 hi hz0 hz1 .i64 .i64 (n : Int) (n : Int) n (by rfl) (by rfl) rfl rfl hb16 (by unfold maxLen; omega) (Nat.le_refl _) ?_)
  intro w1 hown1 hg1
  have P1 := Lib.hid (part_start (c := Cod.entry) (show w1.ownsRow w.heap.size 61 Cod.entry.size (.slice (some ⟨w.heap.size, 0, none⟩) n n) n _ from hown1))
  have hb1 : Below w.heap.size w w1 := Below.grown (Below.refl _ _) hg1 (Nat.le_refl _) (by simp)
  clear hown1 hg1 hb16 hi hz0 hz1 hz2
  go_wp2
  go_loopw [11] (fun i wr => ∃ k : Nat, i = .int .i64 (k : Int) ∧ k ≤ n ∧ Hid (Part Cod.entry wr w.heap.size 61 (.slice (some ⟨w.heap.size, 0, none⟩) n n) n (l.take k)) ∧ Below w.heap.size w wr) (fun i _ => n - (intOf i).toNat)
  case atStart => exact ⟨0, rfl, Nat.zero_le _, Lib.hid ⟨_, P1.out⟩, hb1⟩
  case round =>
    obtain ⟨k, rfl, hk, Hp, hb⟩ := hrel
    by_cases hlt : k < n
    · have hlt2 : (k : Int) < (n : Int) := by omega
      have hkl : k < l.length := by have := Hn.out; omega
      have hktl : (l.take k).length = k := by rw [List.length_take]; omega
      obtain ⟨g, o, rfl, hg, hc⟩ := R.out (by have := Hn.out; omega)
      have at0 := (hc k hkl).below hg hb
      have Ht := Lib.hid (List.take_succ_eq_append_getElem hkl)
      have hcst := sumC_get costEntry l k hkl
      obtain ⟨x, es⟩ : ∃ x, l[k] = x := ⟨_, rfl⟩
      rw [es] at at0 Ht hcst
      have Hl : Hid (costEntry x ≤ 1048576) := Lib.hid (by have := Hc.out; unfold costEntryS at this; omega)
      clear hc es hkl hcst
      obtain ⟨d0, d1, d2, d3, d4, ⟨uRecReads, d5, rRecReads⟩, ⟨uRecWrites, d6, rRecWrites⟩, d7, zTerm, zRecKind, zRecTxn, zRecTime, zRecLead⟩ := at_entry at0
      rw [show o + k * Cod.entry.size = o + k * 8 from rfl] at *
      clear at0
      have lRecReads : x.Rec.Reads.length ≤ 1048576 := by have := Hl.out; unfold costEntry costStringS at this; omega
      have lRecWrites : x.Rec.Writes.length ≤ 1048576 := by have := Hl.out; unfold costEntry costWriteS at this; omega
      obtain ⟨cells, Pc⟩ := Hp.out
      have Pc := Lib.hid Pc
      have hbs := hb.size
      obtain ⟨pr, cr, rfl, -⟩ := rRecReads.form
      obtain ⟨pw, cw, rfl, -⟩ := rRecWrites.form
      have Hcp : Hid (∀ W, Below wr.heap.size wr W → Calls Try.prog 36 #[.agg #[.int .i64 x.Rec.Kind, .int .i64 x.Rec.Txn, .int .i64 x.Rec.Time, .int .i64 x.Rec.Lead, .slice pr x.Rec.Reads.length cr, .slice pw x.Rec.Writes.length cw, .bool x.Rec.Yes]] W fun e w' => EntRet x W.heap.size e w' ∧ Below W.heap.size W w') := Lib.hid fun W b => (copyRec_d x.Rec zRecKind zRecTxn zRecTime zRecLead lRecReads lRecWrites W _ (rRecReads.below b) _ (rRecWrites.below b)).mono fun _ _ h => ⟨entRet_of zTerm h.1, h.2⟩
      unfold EntRet at Hcp
      have Hset := Lib.hid (fun (w1 : World) (k1 : Below wr.heap.size wr w1) (pR : Option Addr) (cR : Nat) (pW : Option Addr) (cW : Nat) (f : List Nat) hx hm => Pc.out.set k1 (vs := [.int .i64 x.Term, .int .i64 x.Rec.Kind, .int .i64 x.Rec.Txn, .int .i64 x.Rec.Time, .int .i64 x.Rec.Lead, .slice pR x.Rec.Reads.length cR, .slice pW x.Rec.Writes.length cW, .bool x.Rec.Yes]) (x := x) (f := f) rfl hx hm (by rw [hktl]; exact hlt))
      rw [hktl, ← Ht.out] at Hset
      have Hq : Hid (∀ w1, Below wr.heap.size wr w1 → ∃ cells : List Value, w1.ownsRow w.heap.size 61 8 (.slice (some ⟨w.heap.size, 0, none⟩) n n) n cells ∧ cells.length = n * 8) := Lib.hid fun w1 k1 => by
        obtain ⟨fs, hown, _⟩ := Pc.out.below k1
        exact ⟨cells, hown, hown.1⟩
      clear Hp Pc lRecReads lRecWrites rRecReads rRecWrites Ht hktl Hl
      go_upto_region 5 with fail
      go_region_with (go_at_call 36; (with_reducible refine (Hcp.out _ (by (repeat (first | (with_reducible exact Below.refl _ _) | (with_reducible refine below_setCell ?_ (by first | (simp; done) | (simp; omega) | omega)) | (with_reducible refine below_alloc _ ?_) | (with_reducible refine below_drewN ?_ _) | (with_reducible refine below_drew_step ?_) | (with_reducible assumption) | (with_reducible refine below_after (by assumption) ?_))))).mono ?_); rintro e w1 ⟨⟨pR, cR, pW, cW, f, rfl, hx, hm⟩, k1⟩; have hx1 := bcell k1; have kb : Below wr.heap.size wr w1 := below_after k1 (by (repeat (first | (with_reducible exact Below.refl _ _) | (with_reducible refine below_setCell ?_ (by first | (simp; done) | (simp; omega) | omega)) | (with_reducible refine below_alloc _ ?_) | (with_reducible refine below_drewN ?_ _) | (with_reducible refine below_drew_step ?_) | (with_reducible assumption) | (with_reducible refine below_after (by assumption) ?_)))); have Hx := Lib.hid hx; have Hm := Lib.hid (hm.mono (base' := wr.heap.size) (by first | exact Nat.le_refl _ | (simp; done) | (simp; omega))); clear hx hm; obtain ⟨cells1, hown, hlen⟩ := Hq.out w1 kb; obtain ⟨old0, g0⟩ : ∃ u, w1.cell? ⟨w.heap.size, k * 8, none⟩ = some u := ⟨_, by rw [hown.cellAt _ (by omega), List.getElem?_eq_getElem (by omega)]⟩; have y0 := hown.frozenAt (k * 8); obtain ⟨old1, g1⟩ : ∃ u, w1.cell? ⟨w.heap.size, k * 8 + 1, none⟩ = some u := ⟨_, by rw [hown.cellAt _ (by omega), List.getElem?_eq_getElem (by omega)]⟩; have y1 := hown.frozenAt (k * 8 + 1); obtain ⟨old2, g2⟩ : ∃ u, w1.cell? ⟨w.heap.size, k * 8 + 2, none⟩ = some u := ⟨_, by rw [hown.cellAt _ (by omega), List.getElem?_eq_getElem (by omega)]⟩; have y2 := hown.frozenAt (k * 8 + 2); obtain ⟨old3, g3⟩ : ∃ u, w1.cell? ⟨w.heap.size, k * 8 + 3, none⟩ = some u := ⟨_, by rw [hown.cellAt _ (by omega), List.getElem?_eq_getElem (by omega)]⟩; have y3 := hown.frozenAt (k * 8 + 3); obtain ⟨old4, g4⟩ : ∃ u, w1.cell? ⟨w.heap.size, k * 8 + 4, none⟩ = some u := ⟨_, by rw [hown.cellAt _ (by omega), List.getElem?_eq_getElem (by omega)]⟩; have y4 := hown.frozenAt (k * 8 + 4); obtain ⟨old5, g5⟩ : ∃ u, w1.cell? ⟨w.heap.size, k * 8 + 5, none⟩ = some u := ⟨_, by rw [hown.cellAt _ (by omega), List.getElem?_eq_getElem (by omega)]⟩; have y5 := hown.frozenAt (k * 8 + 5); obtain ⟨old6, g6⟩ : ∃ u, w1.cell? ⟨w.heap.size, k * 8 + 6, none⟩ = some u := ⟨_, by rw [hown.cellAt _ (by omega), List.getElem?_eq_getElem (by omega)]⟩; have y6 := hown.frozenAt (k * 8 + 6); obtain ⟨old7, g7⟩ : ∃ u, w1.cell? ⟨w.heap.size, k * 8 + 7, none⟩ = some u := ⟨_, by rw [hown.cellAt _ (by omega), List.getElem?_eq_getElem (by omega)]⟩; have y7 := hown.frozenAt (k * 8 + 7); clear hown hlen)
      all_goals
        go_wp2
        go_roundw
        case rel => exact ⟨k + 1, by go_num, by omega, Lib.hid (Hset.out w1 kb pR cR pW cW f Hx.out Hm.out), below_setCell (below_setCell (below_setCell (below_setCell (below_setCell (below_setCell (below_setCell (below_setCell (kb.mono hbs |> hb.trans) (Nat.le_refl _)) (Nat.le_refl _)) (Nat.le_refl _)) (Nat.le_refl _)) (Nat.le_refl _)) (Nat.le_refl _)) (Nat.le_refl _)) (Nat.le_refl _)⟩
        case measure => simp [intOf]; omega
    · have hlt2 : (n : Int) ≤ (k : Int) := by omega
      obtain rfl : k = n := by omega
      go_wp2
      go_ret
      have hf : l.take k = l := List.take_of_length_le (by have := Hn.out; omega)
      have h3 := Hp.out
      rw [hf] at h3
      exact ⟨_, rfl, h3.ownR Hn.out, hb⟩

/-- impl.copyEntries -/
theorem copyEntries_any (v : Value) (l : List EntryD) (hl : costEntryS l ≤ 1048576) (w : World) (h : Rd Cod.entry w v l) :
    Calls Try.prog 37 #[v] w fun e w' => ∃ v', e = .returned v' ∧ Own Cod.entry w' w.heap.size v' l ∧ Below w.heap.size w w' :=
  (copyEntries_r v l hl w h).mono fun _ _ ⟨v', he, o, b⟩ => ⟨v', he, o.own, b⟩

end Go.Proofs.Ytfaefjdlfjhniaa


/- GoodCells, both. -/
namespace Go.Proofs.Ytfaefjdlfjhniaa
open Go.RowKit

/-- Cell k's versions are good. -/
def VersAt (l : List CellD) (k : Nat) : Prop := ∀ h : k < l.length, GoodV l[k].Vers
/-- Whether the cells are good. -/
def GoodC (l : List CellD) : Prop := l.length ≤ 24 ∧ (∀ k, k < l.length → VersAt l k) ∧ Rising (l.map fun x => x.Key)
noncomputable def goodCB (l : List CellD) : Bool := pB (GoodC l)
/-- Cell k is good and behind the one ahead of it. -/
def CellAtK (l : List CellD) (k : Nat) : Prop := ∀ h : k < l.length, (GoodV l[k].Vers ∧ keyB l[k].Key = true) ∧ ∀ m (hm : m + 1 = k), ltB (l[m]'(by omega)).Key l[k].Key = true
def KeyAt (l : List CellD) (k : Nat) : Prop := ∀ h : k < l.length, ∀ m (hm : m + 1 = k), ltB (l[m]'(by omega)).Key l[k].Key = true

theorem goodC_iff (l : List CellD) : GoodC l ↔ l.length ≤ 24 ∧ ∀ k, k < l.length → CellAtK l k := by
  constructor
  · rintro ⟨h0, h1, h2⟩
    refine ⟨h0, fun k hk _ => ?_⟩
    have h3 := h2 k (by simpa using hk) (by simpa using hk)
    refine ⟨⟨h1 k hk hk, by simpa using h3.1⟩, fun m hm => ?_⟩
    simpa using h3.2 m hm
  · rintro ⟨h0, h1⟩
    refine ⟨h0, fun k hk _ => (h1 k hk hk).1.1, fun k hk hk2 => ?_⟩
    have hkl : k < l.length := by simpa using hk
    have h3 := h1 k hkl hkl
    refine ⟨by simpa using h3.1.2, fun m hm => ?_⟩
    simpa using h3.2 m hm

theorem vers_le {l : List CellD} (hl : costCellS l ≤ 1048576) {k : Nat} (hk : k < l.length) : l[k].Vers.length ≤ 1048576 := by
  have h2 := sumC_get costCell l k hk
  unfold costCellS at hl
  have h3 : l[k].Vers.length ≤ costCell l[k] := by unfold costCell costVerS; omega
  omega

end Go.Proofs.Ytfaefjdlfjhniaa


/- Versions trimmed: the plain law. No program. -/
namespace Go.Proofs.Ytfaefjdlfjhniaa
open Go.RowKit

def headLe (fl : Int) : List VerD → Bool
  | [] => false
  | v :: _ => decide (v.Time ≤ fl)
/-- What is kept of versions. -/
def keepV (fl : Int) : List VerD → List VerD
  | [] => []
  | v :: vs => if (decide (fl < v.Time) || (!headLe fl vs && !v.Gone)) = true then v :: keepV fl vs else keepV fl vs
/-- The last index with a time of at most fl. -/
def lastF (fl : Int) : List VerD → Nat → Nat → Nat
  | [], _, c => c
  | v :: vs, j, c => lastF fl vs (j + 1) (if v.Time ≤ fl then j else c)

/-- Times that rise: the first m are at most fl, the others later. -/
def CutAt (fl : Int) : List VerD → Nat → Prop
  | [], m => m = 0
  | v :: vs, 0 => fl < v.Time ∧ CutAt fl vs 0
  | v :: vs, m + 1 => v.Time ≤ fl ∧ CutAt fl vs m

theorem CutAt.le {fl : Int} : ∀ {vs : List VerD} {m : Nat}, CutAt fl vs m → m ≤ vs.length
  | [], m, h => by rw [show m = 0 from h]; exact Nat.le_refl _
  | _ :: _, 0, _ => Nat.zero_le _
  | _ :: vs, m + 1, h => by have := CutAt.le h.2; simp; omega
theorem CutAt.head {fl : Int} : ∀ {vs : List VerD} {m : Nat}, CutAt fl vs m → headLe fl vs = decide (0 < m)
  | [], m, h => by rw [show m = 0 from h]; rfl
  | v :: _, 0, h => by simp only [headLe]; rw [decide_eq_false (by have := h.1; omega)]; rfl
  | v :: _, m + 1, h => by simp only [headLe]; rw [decide_eq_true h.1]; simp
theorem keepV_zero {fl : Int} : ∀ {vs : List VerD}, CutAt fl vs 0 → keepV fl vs = vs
  | [], _ => rfl
  | v :: vs, h => by
    unfold keepV
    rw [if_pos (by rw [decide_eq_true h.1]; rfl), keepV_zero h.2]
theorem keepV_succ {fl : Int} : ∀ {vs : List VerD} {m : Nat} (_ : CutAt fl vs (m + 1)) (hm : m < vs.length), keepV fl vs = if vs[m].Gone then vs.drop (m + 1) else vs.drop m
  | [], _, h, _ => by cases h
  | v :: vs, 0, h, _ => by
    have hd := h.2.head
    unfold keepV
    rw [hd, decide_eq_false (by have := h.1; omega), keepV_zero h.2]
    cases hg : v.Gone <;> simp [hg]
  | v :: vs, m + 1, h, hm => by
    have hd := h.2.head
    unfold keepV
    rw [hd, decide_eq_false (by have := h.1; omega), keepV_succ h.2 (by simpa using hm)]
    simp
theorem lastF_of {fl : Int} : ∀ {vs : List VerD} {m : Nat} (j c : Nat), CutAt fl vs m → lastF fl vs j c = if m = 0 then c else j + m - 1
  | [], m, j, c, h => by rw [show m = 0 from h]; rfl
  | v :: vs, 0, j, c, h => by
    unfold lastF
    rw [if_neg (by have := h.1; omega), lastF_of (j + 1) c h.2]
    rfl
  | v :: vs, m + 1, j, c, h => by
    unfold lastF
    rw [if_pos h.1, lastF_of (j + 1) j h.2]
    by_cases hm : m = 0
    · subst hm; rw [if_pos rfl, if_neg (by omega)]; omega
    · rw [if_neg hm, if_neg (by omega)]; omega

/-- Times rise. -/
def RiseV (vs : List VerD) : Prop := ∀ j (h : j + 1 < vs.length), (vs[j]'(by omega)).Time < vs[j + 1].Time
theorem RiseV.tail {v : VerD} {vs : List VerD} (h : RiseV (v :: vs)) : RiseV vs := fun j hj => h (j + 1) (by simpa using hj)
theorem RiseV.zero {fl : Int} : ∀ {vs : List VerD}, RiseV vs → headLe fl vs = false → CutAt fl vs 0
  | [], _, _ => rfl
  | v :: vs, h, hd => by
    have h1 : fl < v.Time := by simpa [headLe] using hd
    refine ⟨h1, RiseV.zero h.tail ?_⟩
    cases vs with
    | nil => rfl
    | cons v' vs =>
      have := h 0 (by simp)
      simp only [headLe, decide_eq_false_iff_not]
      simp at this
      omega
theorem RiseV.cut {fl : Int} : ∀ {vs : List VerD}, RiseV vs → ∃ m, CutAt fl vs m
  | [], _ => ⟨0, rfl⟩
  | v :: vs, h => by
    by_cases hv : v.Time ≤ fl
    · obtain ⟨m, hm⟩ := RiseV.cut (fl := fl) h.tail
      exact ⟨m + 1, hv, hm⟩
    · exact ⟨0, h.zero (by simp only [headLe, decide_eq_false_iff_not]; exact hv)⟩

theorem riseV_of {vs : List VerD} (h : GoodV vs) : RiseV vs := fun j hj => (h.2 (j + 1) hj hj).2.2 j rfl

/-- How the program finds where the kept ones begin. -/
theorem keepV_first {fl : Int} {vs : List VerD} (h : RiseV vs) (hp : 0 < vs.length) : ∃ f, ∃ hf : f < vs.length, lastF fl vs 0 0 = f ∧ keepV fl vs = if vs[f].Time ≤ fl ∧ vs[f].Gone = true then vs.drop (f + 1) else vs.drop f := by
  obtain ⟨m, hm⟩ := h.cut (fl := fl)
  have hl := hm.le
  rw [lastF_of 0 0 hm]
  cases m with
  | zero =>
    refine ⟨0, hp, rfl, ?_⟩
    rw [keepV_zero hm]
    cases vs with
    | nil => simp at hp
    | cons v vs =>
      have := hm.1
      rw [if_neg (by simp; omega)]
      rfl
  | succ m =>
    refine ⟨m, by omega, by simp, ?_⟩
    rw [keepV_succ hm (by omega)]
    have ht : ∀ {vs : List VerD} {m : Nat} (h : CutAt fl vs (m + 1)) (hm : m < vs.length), vs[m].Time ≤ fl := by
      intro vs m
      induction m generalizing vs with
      | zero => intro h hm; cases vs with
        | nil => cases h
        | cons v vs => exact h.1
      | succ m ih => intro h hm; cases vs with
        | nil => cases h
        | cons v vs => exact ih h.2 (by simpa using hm)
    have ht1 := ht hm (by omega)
    cases hg : vs[m].Gone <;> simp [ht1, hg]

theorem keepV_length (fl : Int) (vs : List VerD) : (keepV fl vs).length ≤ vs.length := by
  induction vs with
  | nil => exact Nat.le_refl _
  | cons v vs ih =>
    unfold keepV
    split
    · simp; omega
    · simp; omega
theorem costVerS_keep (fl : Int) (vs : List VerD) : costVerS (keepV fl vs) ≤ costVerS vs := by
  unfold costVerS
  have h1 := keepV_length fl vs
  have h2 : sumC costVer (keepV fl vs) ≤ sumC costVer vs := by
    induction vs with
    | nil => exact Nat.le_refl _
    | cons v vs ih =>
      have := ih (keepV_length fl vs)
      unfold keepV
      split
      · show costVer v + sumC costVer (keepV fl vs) ≤ costVer v + sumC costVer vs; omega
      · show _ ≤ costVer v + sumC costVer vs; omega
  omega

/-- A cell trimmed: none if no version is left. -/
def trimC (fl : Int) (c : CellD) : List CellD := if (keepV fl c.Vers).length = 0 then [] else [⟨c.Key, keepV fl c.Vers⟩]
def trimL (fl : Int) : List CellD → List CellD
  | [] => []
  | c :: l => trimC fl c ++ trimL fl l
theorem trimL_take (fl : Int) (l : List CellD) (k : Nat) (h : k < l.length) : trimL fl (l.take (k + 1)) = trimL fl (l.take k) ++ trimC fl l[k] := by
  have happ : ∀ a b : List CellD, trimL fl (a ++ b) = trimL fl a ++ trimL fl b := by
    intro a b
    induction a with
    | nil => rfl
    | cons x a ih => show trimC fl x ++ trimL fl (a ++ b) = _; rw [ih]; simp [trimL]
  rw [List.take_succ_eq_append_getElem h, happ]
  simp [trimL]
theorem trimL_cost (fl : Int) (l : List CellD) : costCellS (trimL fl l) ≤ costCellS l ∧ (trimL fl l).length ≤ l.length := by
  have h1 : (trimL fl l).length ≤ l.length ∧ sumC costCell (trimL fl l) ≤ sumC costCell l := by
    induction l with
    | nil => exact ⟨Nat.le_refl _, Nat.le_refl _⟩
    | cons c l ih =>
      unfold trimL trimC
      split
      · refine ⟨by simp; omega, ?_⟩
        show _ ≤ costCell c + sumC costCell l
        rw [List.nil_append]; omega
      · refine ⟨by simp; omega, ?_⟩
        show costCell ⟨c.Key, keepV fl c.Vers⟩ + sumC costCell (trimL fl l) ≤ costCell c + sumC costCell l
        have h2 : costCell ⟨c.Key, keepV fl c.Vers⟩ ≤ costCell c := by
          have := costVerS_keep fl c.Vers
          unfold costCell
          simp only
          omega
        omega
  unfold costCellS
  omega

end Go.Proofs.Ytfaefjdlfjhniaa


/- spec.l3Trim. -/
namespace Go.Proofs.Ytfaefjdlfjhniaa
open Go.RowKit

/-- A value that is a row being built, as long as what it holds. -/
def Grow {α : Type} (c : Cod α) (w : World) (base : Nat) (e : TypeId) (v : Value) (xs : List α) : Prop := Part c w base e v xs.length xs
theorem Grow.below {α : Type} {c : Cod α} {w w' : World} {base : Nat} {e : TypeId} {v : Value} {xs : List α} (h : Grow c w base e v xs) (k : Below w.heap.size w w') : Grow c w' base e v xs := Part.below h k
theorem Grow.form {α : Type} {c : Cod α} {w : World} {base : Nat} {e : TypeId} {v : Value} {xs : List α} (h : Grow c w base e v xs) : ∃ p cap, v = .slice p xs.length cap := by
  obtain ⟨cells, h⟩ := h
  exact h.form
theorem grow_nil {α : Type} (c : Cod α) (w : World) (base : Nat) (e : TypeId) : Grow c w base e (.slice none 0 0) [] := ⟨[], part_start (World.ownsRow_nil w base e c.size)⟩
theorem Grow.own {α : Type} {c : Cod α} {w : World} {base : Nat} {e : TypeId} {v : Value} {xs : List α} (h : Grow c w base e v xs) : Own c w base v xs := Part.own h rfl

end Go.Proofs.Ytfaefjdlfjhniaa


/- spec.l9OwnLog. -/
namespace Go.Proofs.Ytfaefjdlfjhniaa
open Go.RowKit

theorem Try_infoO_str : (Try.prog.info? 9).map (fun i => (i.zero, i.size, i.bytes)) = some (some (.string ⟨#[]⟩), 1, 16) := by kernel_rfl
theorem Try_infoO_write : (Try.prog.info? 79).map (fun i => (i.zero, i.size, i.bytes)) = some (some (.agg #[.string ⟨#[]⟩, .string ⟨#[]⟩, .bool false]), 3, 40) := by kernel_rfl

set_option maxRecDepth 100000 in
set_option maxHeartbeats 3200000 in
/-- spec.l9OwnLog -/
theorem l9OwnLog_r (v : Value) (l : List EntryD) (hl : costEntryS l ≤ 1048576) (w : World) (h : Rd Cod.entry w v l) :
    Calls Try.prog 53 #[v] w fun e w' => ∃ v', e = .returned v' ∧ OwnR Cod.entry w' w.heap.size v' l ∧ Below w.heap.size w w' := by
  obtain ⟨i0, hi, hv0, hv1, hv2⟩ := info_parts Try_info_entry
  obtain ⟨i1, hi1, hy0, hy1, hy2⟩ := info_parts Try_infoO_str
  obtain ⟨i2, hi2, hx0, hx1, hx2⟩ := info_parts Try_infoO_write
  obtain ⟨p, c, rfl, hlc, hcm, r⟩ := h.form
  have R := Lib.hid r
  clear r h hlc hcm
  have Hc := Lib.hid hl
  obtain ⟨n, hn⟩ : ∃ n : Nat, l.length = n := ⟨_, rfl⟩
  have Hn := Lib.hid hn
  have hnb : (n : Int) ≤ 1048576 := by unfold costEntryS at hl; omega
  rw [hn]
  clear hn hl
  go_enter Try.func53, Try.ntmps53
  go_wp2
  go_loopw [3, 4] (fun a i wr => ∃ k : Nat, i = .int .i64 (k : Int) ∧ k ≤ n ∧ Hid (∃ p c, a = .slice p k c) ∧ Hid (Part Cod.entry wr w.heap.size 61 a k (l.take k)) ∧ Below w.heap.size w wr) (fun _ i _ => n - (intOf i).toNat)
  case atStart => exact ⟨0, rfl, Nat.zero_le _, Lib.hid ⟨_, _, rfl⟩, Lib.hid ⟨_, part_start (World.ownsRow_made _ _ _ (Nat.le_refl _) (by simp) rfl)⟩, below_new _ _⟩
  case round =>
    obtain ⟨k, rfl, hk, ⟨pa, ca, rfl⟩, Hp, hb⟩ := hrel
    have hbs := hb.size
    by_cases hlt : k < n
    · have hlt2 : (k : Int) < (n : Int) := by omega
      have hkl : k < l.length := by have := Hn.out; omega
      have hktl : (l.take k).length = k := by rw [List.length_take]; omega
      obtain ⟨g, o, rfl, hg, hc⟩ := R.out (by have := Hn.out; omega)
      have at0 := (hc k hkl).below hg hb
      have Ht := Lib.hid (List.take_succ_eq_append_getElem hkl)
      have hcst := sumC_get costEntry l k hkl
      obtain ⟨x, es⟩ : ∃ x, l[k] = x := ⟨_, rfl⟩
      rw [es] at at0 Ht hcst
      have Hl : Hid (costEntry x ≤ 1048576) := Lib.hid (by have := Hc.out; unfold costEntryS at this; omega)
      clear hc es hkl hcst
      obtain ⟨d0, d1, d2, d3, d4, ⟨uR, d5, rR⟩, ⟨uW, d6, rW⟩, d7, zTerm, zRecKind, zRecTxn, zRecTime, zRecLead⟩ := at_entry at0
      rw [show o + k * Cod.entry.size = o + k * 8 from rfl] at *
      clear at0
      obtain ⟨pr, cr, rfl, -⟩ := rR.form
      obtain ⟨pw, cw, rfl, -⟩ := rW.form
      have Hb1 : Hid ((0 + x.Rec.Reads.length) * 16 ≤ room) := Lib.hid (by have := Hl.out; unfold costEntry costStringS at this; unfold room; omega)
      have Hb2 : Hid ((0 + x.Rec.Writes.length) * 40 ≤ room) := Lib.hid (by have := Hl.out; unfold costEntry costWriteS at this; unfold room; omega)
      have Hroom : Hid ((k + 1) * 96 ≤ room) := Lib.hid (by unfold room; omega)
      have HR : Hid (∀ u, Below wr.heap.size wr u → Rd Cod.str u (.slice pr x.Rec.Reads.length cr) x.Rec.Reads) := Lib.hid fun u b => rR.below b
      have HW : Hid (∀ u, Below wr.heap.size wr u → Rd Cod.write u (.slice pw x.Rec.Writes.length cw) x.Rec.Writes) := Lib.hid fun u b => rW.below b
      obtain ⟨cells, Pc⟩ := Hp.out
      have Pc := Lib.hid Pc
      have Hktl := Lib.hid hktl
      have Hx := Lib.hid (fun (W : World) (uR : Value) (fR : List Nat) (rR : Cod.rdS Cod.str W uR x.Rec.Reads fR) (uW : Value) (fW : List Nat) (rW : Cod.rdS Cod.write W uW x.Rec.Writes fW) => mk_entry (w := W) (g := lst [.int .i64 x.Term, .int .i64 x.Rec.Kind, .int .i64 x.Rec.Txn, .int .i64 x.Rec.Time, .int .i64 x.Rec.Lead, uR, uW, .bool x.Rec.Yes]) (x := x) rfl zTerm rfl zRecKind rfl zRecTxn rfl zRecTime rfl zRecLead rfl rR rfl rW rfl)
      clear Hp rR rW hktl Hl
      obtain ⟨xt, ⟨xa, xb, xc, xd, xr, xw, xy⟩⟩ := x
      dsimp only at *
      generalize hlr : xr.length = lr at *
      generalize hlw : xw.length = lw at *
      have Hlr := Lib.hid hlr
      have Hlw := Lib.hid hlw
      clear hlr hlw
      go_wp2_with (at_builtin; go_must (refine wpList_append_flat (c := Cod.str) flat_str _ rfl _ _ 33 (by rfl) (wr.heap.size + 1) 9 i1 (.string ⟨#[]⟩) 16 Try.underlying33 hi1 hy0 hy1 hy2 rfl (by decide) (by decide) _ (.slice (some ⟨wr.heap.size + 1, 0, none⟩) 0 0) 0 [] [] (by rfl) (part_start (made0 (by simp) (Nat.le_refl _))) rfl (Below.refl _ _) (.slice pr lr cr) xr (by rfl) (HR.out _ (by (repeat (first | (with_reducible exact Below.refl _ _) | (with_reducible refine below_setCell ?_ (by first | (simp; done) | (simp; omega) | omega)) | (with_reducible refine below_alloc _ ?_) | (with_reducible refine below_drewN ?_ _) | (with_reducible assumption) | (with_reducible refine below_after (by assumption) ?_))))) (by rw [Hlr.out]; exact Hb1.out) (by simp) ?_))
      intro p' c' w2 cells' hP hb2
      have hP := hP.own (by simp)
      try simp only [Nat.zero_add, List.nil_append] at hP
      try simp only [Nat.zero_add]
      have b0 : w2.cell? ⟨wr.heap.size, 0, none⟩ = some (.int .i64 xt) := cell_from hb2 (Nat.lt_succ_self _) (by simp [go_sem])
      have bf0 : w2.frozen? ⟨wr.heap.size, 0, none⟩ = false := free_from hb2 (Nat.lt_succ_self _) (by simp [go_sem])
      have b1 : w2.cell? ⟨wr.heap.size, 1, none⟩ = some (.int .i64 xa) := cell_from hb2 (Nat.lt_succ_self _) (by simp [go_sem])
      have bf1 : w2.frozen? ⟨wr.heap.size, 1, none⟩ = false := free_from hb2 (Nat.lt_succ_self _) (by simp [go_sem])
      have b2 : w2.cell? ⟨wr.heap.size, 2, none⟩ = some (.int .i64 xb) := cell_from hb2 (Nat.lt_succ_self _) (by simp [go_sem])
      have bf2 : w2.frozen? ⟨wr.heap.size, 2, none⟩ = false := free_from hb2 (Nat.lt_succ_self _) (by simp [go_sem])
      have b3 : w2.cell? ⟨wr.heap.size, 3, none⟩ = some (.int .i64 xc) := cell_from hb2 (Nat.lt_succ_self _) (by simp [go_sem])
      have bf3 : w2.frozen? ⟨wr.heap.size, 3, none⟩ = false := free_from hb2 (Nat.lt_succ_self _) (by simp [go_sem])
      have b4 : w2.cell? ⟨wr.heap.size, 4, none⟩ = some (.int .i64 xd) := cell_from hb2 (Nat.lt_succ_self _) (by simp [go_sem])
      have bf4 : w2.frozen? ⟨wr.heap.size, 4, none⟩ = false := free_from hb2 (Nat.lt_succ_self _) (by simp [go_sem])
      have b5 : w2.cell? ⟨wr.heap.size, 5, none⟩ = some (.slice pr lr cr) := cell_from hb2 (Nat.lt_succ_self _) (by simp [go_sem])
      have bf5 : w2.frozen? ⟨wr.heap.size, 5, none⟩ = false := free_from hb2 (Nat.lt_succ_self _) (by simp [go_sem])
      have b6 : w2.cell? ⟨wr.heap.size, 6, none⟩ = some (.slice pw lw cw) := cell_from hb2 (Nat.lt_succ_self _) (by simp [go_sem])
      have bf6 : w2.frozen? ⟨wr.heap.size, 6, none⟩ = false := free_from hb2 (Nat.lt_succ_self _) (by simp [go_sem])
      have b7 : w2.cell? ⟨wr.heap.size, 7, none⟩ = some (.bool xy) := cell_from hb2 (Nat.lt_succ_self _) (by simp [go_sem])
      have bf7 : w2.frozen? ⟨wr.heap.size, 7, none⟩ = false := free_from hb2 (Nat.lt_succ_self _) (by simp [go_sem])
      have kb2 : Below wr.heap.size wr w2 := (below_alloc _ (below_new _ _)).trans (hb2.mono (Nat.le_succ _))
      have hz2 : wr.heap.size + 1 < w2.heap.size := by have := hb2.size; simp at this; omega
      have hz20 : wr.heap.size < w2.heap.size := by omega
      have Ho1 := Lib.hid hP
      clear hP hb2
      go_wp2_with (at_builtin; go_must (refine wpList_append_flat (c := Cod.write) flat_write _ rfl _ _ 34 (by rfl) w2.heap.size 79 i2 (.agg #[.string ⟨#[]⟩, .string ⟨#[]⟩, .bool false]) 40 Try.underlying34 hi2 hx0 hx1 hx2 rfl (by decide) (by decide) _ (.slice (some ⟨w2.heap.size, 0, none⟩) 0 0) 0 [] [] (by rfl) (part_start (made0 (by simp) (Nat.le_refl _))) rfl (Below.refl _ _) (.slice pw lw cw) xw (by rfl) (HW.out _ (by (repeat (first | (with_reducible exact Below.refl _ _) | (with_reducible refine below_setCell ?_ (by first | (simp; done) | (simp; omega) | omega)) | (with_reducible refine below_alloc _ ?_) | (with_reducible refine below_drewN ?_ _) | (with_reducible assumption) | (with_reducible refine below_after (by assumption) ?_))))) (by rw [Hlw.out]; exact Hb2.out) (by simp) ?_))
      intro p'' c'' w3 cells'' hP hb3
      have hP := hP.own (by simp)
      try simp only [Nat.zero_add, List.nil_append] at hP
      try simp only [Nat.zero_add]
      have e0 : w3.cell? ⟨wr.heap.size, 0, none⟩ = some (.int .i64 xt) := cell_from hb3 (by omega) ((cell_alloc_old (by simp; omega)).trans (by simp [go_sem, b0]))
      have ef0 : w3.frozen? ⟨wr.heap.size, 0, none⟩ = false := free_from hb3 (by omega) ((frozen_alloc_old (by simp; omega)).trans (by simp [go_sem, bf0]))
      have e1 : w3.cell? ⟨wr.heap.size, 1, none⟩ = some (.int .i64 xa) := cell_from hb3 (by omega) ((cell_alloc_old (by simp; omega)).trans (by simp [go_sem, b1]))
      have ef1 : w3.frozen? ⟨wr.heap.size, 1, none⟩ = false := free_from hb3 (by omega) ((frozen_alloc_old (by simp; omega)).trans (by simp [go_sem, bf1]))
      have e2 : w3.cell? ⟨wr.heap.size, 2, none⟩ = some (.int .i64 xb) := cell_from hb3 (by omega) ((cell_alloc_old (by simp; omega)).trans (by simp [go_sem, b2]))
      have ef2 : w3.frozen? ⟨wr.heap.size, 2, none⟩ = false := free_from hb3 (by omega) ((frozen_alloc_old (by simp; omega)).trans (by simp [go_sem, bf2]))
      have e3 : w3.cell? ⟨wr.heap.size, 3, none⟩ = some (.int .i64 xc) := cell_from hb3 (by omega) ((cell_alloc_old (by simp; omega)).trans (by simp [go_sem, b3]))
      have ef3 : w3.frozen? ⟨wr.heap.size, 3, none⟩ = false := free_from hb3 (by omega) ((frozen_alloc_old (by simp; omega)).trans (by simp [go_sem, bf3]))
      have e4 : w3.cell? ⟨wr.heap.size, 4, none⟩ = some (.int .i64 xd) := cell_from hb3 (by omega) ((cell_alloc_old (by simp; omega)).trans (by simp [go_sem, b4]))
      have ef4 : w3.frozen? ⟨wr.heap.size, 4, none⟩ = false := free_from hb3 (by omega) ((frozen_alloc_old (by simp; omega)).trans (by simp [go_sem, bf4]))
      have e5 : w3.cell? ⟨wr.heap.size, 5, none⟩ = some (.slice p' xr.length c') := cell_from hb3 (by omega) ((cell_alloc_old (by simp; omega)).trans (by simp [go_sem, b5]))
      have ef5 : w3.frozen? ⟨wr.heap.size, 5, none⟩ = false := free_from hb3 (by omega) ((frozen_alloc_old (by simp; omega)).trans (by simp [go_sem, bf5]))
      have e6 : w3.cell? ⟨wr.heap.size, 6, none⟩ = some (.slice pw lw cw) := cell_from hb3 (by omega) ((cell_alloc_old (by simp; omega)).trans (by simp [go_sem, b6]))
      have ef6 : w3.frozen? ⟨wr.heap.size, 6, none⟩ = false := free_from hb3 (by omega) ((frozen_alloc_old (by simp; omega)).trans (by simp [go_sem, bf6]))
      have e7 : w3.cell? ⟨wr.heap.size, 7, none⟩ = some (.bool xy) := cell_from hb3 (by omega) ((cell_alloc_old (by simp; omega)).trans (by simp [go_sem, b7]))
      have ef7 : w3.frozen? ⟨wr.heap.size, 7, none⟩ = false := free_from hb3 (by omega) ((frozen_alloc_old (by simp; omega)).trans (by simp [go_sem, bf7]))
      have hz3 : w2.heap.size < w3.heap.size := by have := hb3.size; simp at this; omega
      have hz30 : wr.heap.size < w3.heap.size := by omega
      have kb3 : Below wr.heap.size wr w3 := (below_alloc _ (below_setCell kb2 (Nat.le_refl _))).trans (hb3.mono (by omega))
      have kk : Keep (wr.heap.size + 1) w2 w3 := keep_cut (by (repeat (first | (with_reducible exact Keep.refl _ _) | (with_reducible refine keep_set ?_ (by first | (simp; done) | (simp; omega) | omega)) | (with_reducible refine keep_alloc _ ?_) | (with_reducible refine keep_drewN ?_ _) | (with_reducible assumption) | (with_reducible refine keep_below (by assumption) ?_)))) hb3
      have kp : Below wr.heap.size wr (w3.setCell ⟨wr.heap.size, 6, none⟩ (.slice p'' xw.length c'')) := below_setCell kb3 (Nat.le_refl _)
      obtain ⟨f1, s1, m1⟩ := Ho1.out
      obtain ⟨f2, s2, m2⟩ := hP
      have q1 : Keep (wr.heap.size + 1) w2 (w3.setCell ⟨wr.heap.size, 6, none⟩ (.slice p'' xw.length c'')) := keep_set kk (Nat.lt_succ_self _)
      have q2 : Keep (wr.heap.size + 1) w3 (w3.setCell ⟨wr.heap.size, 6, none⟩ (.slice p'' xw.length c'')) := keep_set (Keep.refl _ _) (Nat.lt_succ_self _)
      have HX := Lib.hid (Hx.out _ _ f1 (rdS_keep s1 m1 (B := wr.heap.size + 1) (Nat.le_refl _) q1) _ f2 (rdS_keep s2 m2 (B := wr.heap.size + 1) (by omega) q2))
      have HM := Lib.hid (((m1.keep (B := wr.heap.size + 1) (Nat.le_refl _) (Cod.rdS_old _ s1) q1).mono (base' := wr.heap.size) (by omega)).app (((m2.keep (B := wr.heap.size + 1) (by omega) (Cod.rdS_old _ s2) q2).mono (base' := wr.heap.size) (by omega)).app (Mine.nil _ _) (fun _ _ h => by cases h)) (fun b h1 h2 => by
        have := Cod.rdS_old _ s1 b h1
        have := m2.low b (by simpa using h2)
        omega))
      clear Ho1 s1 m1 s2 m2 q1 q2 kk hb3 HR HW Hx b0 bf0 b1 bf1 b2 bf2 b3 bf3 b4 bf4 b5 bf5 b6 bf6 b7 bf7
      go_wp2_with (at_builtin; go_must (refine wpList_append_part (c := Cod.entry) (w3.setCell ⟨wr.heap.size, 6, none⟩ (.slice p'' xw.length c'')) rfl _ _ 39 (by rfl) w.heap.size 61 61 i0 (.agg #[.int .i64 0, .int .i64 0, .int .i64 0, .int .i64 0, .int .i64 0, .slice none 0 0, .slice none 0 0, .bool false]) 96 Try.underlying39 hi hv0 hv1 hv2 rfl (by decide) (by decide) wr _ k (l.take k) cells (by rfl) Pc.out Hktl.out kp ⟨xt, ⟨xa, xb, xc, xd, xr, xw, xy⟩⟩ (f1 ++ (f2 ++ [])) [.int .i64 xt, .int .i64 xa, .int .i64 xb, .int .i64 xc, .int .i64 xd, .slice p' xr.length c', .slice p'' xw.length c'', .bool xy] rfl HX.out HM.out w3.heap.size (by simp) (by rfl) (by simp [Value.oneCell']) Hroom.out hbs ?_))
      intro g' cap' w4 hp4 hb4
      have Hp4 := Lib.hid hp4
      have hbw4 : Below w.heap.size w w4 := (below_after kp hb).trans hb4
      clear hp4 hb4
      go_wp2
      go_roundw
      case rel => exact ⟨k + 1, by go_num, by omega, Lib.hid ⟨_, _, rfl⟩, Lib.hid (by rw [Ht.out]; exact Hp4.out), hbw4⟩
      case measure => simp [intOf]; omega
    · have hlt2 : (n : Int) ≤ (k : Int) := by omega
      obtain rfl : k = n := by omega
      go_wp2
      go_ret
      have hf : l.take k = l := List.take_of_length_le (by have := Hn.out; omega)
      have h3 := Hp.out
      rw [hf] at h3
      exact ⟨_, rfl, h3.ownR Hn.out, hb⟩

/-- spec.l9OwnLog -/
theorem l9OwnLog_any (v : Value) (l : List EntryD) (hl : costEntryS l ≤ 1048576) (w : World) (h : Rd Cod.entry w v l) :
    Calls Try.prog 53 #[v] w fun e w' => ∃ v', e = .returned v' ∧ Own Cod.entry w' w.heap.size v' l ∧ Below w.heap.size w w' :=
  (l9OwnLog_r v l hl w h).mono fun _ _ ⟨v', he, o, b⟩ => ⟨v', he, o.own, b⟩

end Go.Proofs.Ytfaefjdlfjhniaa

