/- Plain lemmas and contracts that all proofs of this seat lean on: bundle Gcopy. -/
import Derived.Test.YtfaefjdlfjhniaaRowd
import Derived.Test.YtfaefjdlfjhniaaLogg
import Derived.Test.YtfaefjdlfjhniaaCopyl
import Derived.Test.YtfaefjdlfjhniaaTos
import Derived.Test.YtfaefjdlfjhniaaHeld
/- impl.copyGroup. -/
namespace Go.Proofs.Ytfaefjdlfjhniaa
open Go.RowKit

/-- A replica whose log has room, out of its parts. -/
theorem mk_replicaR {w : World} {up : Bool} {L : List EntryD} {sure : Int} {u : Value} {f : List Nat} (r : Cod.rdR Cod.entry w u L f) (z : I64 sure) : Cod.replicaR.rd w (lst [.bool up, u, .int .i64 sure]) ⟨up, L, sure⟩ f :=
  ⟨[], f, rfl, ⟨rfl, trivial, rfl⟩, f, [], (List.append_nil f).symm, ⟨u, rfl, r⟩, ⟨rfl, z, rfl⟩⟩

set_option maxRecDepth 100000 in
set_option maxHeartbeats 6400000 in
/-- impl.copyGroup -/
theorem copyGroup_any (v : Value) (l : List ReplicaD) (term lead : Int) (hl : costReplicaS l ≤ 1048576) (w : World) (h : Rd Cod.replica w v l) :
    Calls Try.prog 27 #[.agg #[v, .int .i64 term, .int .i64 lead]] w fun e w' => ∃ v', e = .returned (.agg #[v', .int .i64 term, .int .i64 lead]) ∧ Own Cod.replicaR w' w.heap.size v' l ∧ Below w.heap.size w w' := by
  obtain ⟨i0, hi, hz0, hz1, hz2⟩ := info_parts Try_info_replica
  obtain ⟨p, c, rfl, _, _, r⟩ := h.form
  have R := Lib.hid r
  have Hl := Lib.hid hl
  clear r h
  obtain ⟨n, hn⟩ : ∃ n : Nat, l.length = n := ⟨_, rfl⟩
  have Hn := Lib.hid hn
  have hnb : (n : Int) ≤ 1048576 := by unfold costReplicaS at hl; omega
  rw [hn]
  clear hn hl
  go_enter Try.func27, Try.ntmps27
  go_wp2
  go_loopw [14] (fun i wr => ∃ (k : Nat) (pa : Option Addr) (ca : Nat), i = .int .i64 (k : Int) ∧ k ≤ n ∧ wr.cell? ⟨w.heap.size + 1 + 1, 0, none⟩ = some (.slice pa k ca) ∧ Hid (PartV Cod.replicaR wr (w.heap.size + 3) 50 (.slice pa k ca) k (l.take k)) ∧
    (wr.cell? ⟨w.heap.size + 1 + 1, 1, none⟩ = some (.int .i64 term) ∧ wr.cell? ⟨w.heap.size + 1 + 1, 2, none⟩ = some (.int .i64 lead) ∧ wr.frozen? ⟨w.heap.size + 1 + 1, 0, none⟩ = false) ∧
    (wr.cell? ⟨w.heap.size + 1, 0, none⟩ = some (.slice none 0 0) ∧ wr.cell? ⟨w.heap.size + 1, 1, none⟩ = some (.int .i64 0) ∧ wr.cell? ⟨w.heap.size + 1, 2, none⟩ = some (.int .i64 0) ∧ wr.frozen? ⟨w.heap.size + 1, 0, none⟩ = false ∧ wr.frozen? ⟨w.heap.size + 1, 1, none⟩ = false ∧ wr.frozen? ⟨w.heap.size + 1, 2, none⟩ = false) ∧
    w.heap.size + 1 + 1 < wr.heap.size ∧ Below w.heap.size w wr) (fun i _ => n - (intOf i).toNat)
  case atStart => exact ⟨0, none, 0, rfl, Nat.zero_le _, by simp [go_sem], Lib.hid (Or.inl ⟨none, rfl, rfl, rfl⟩), ⟨by simp [go_sem], by simp [go_sem], by simp [go_sem]⟩, ⟨by simp [go_sem], by simp [go_sem], by simp [go_sem], by simp [go_sem], by simp [go_sem], by simp [go_sem]⟩, by simp, by (repeat (first | (with_reducible exact Below.refl _ _) | (with_reducible refine below_setCell ?_ (by first | (simp; done) | (simp; omega) | omega)) | (with_reducible refine below_alloc _ ?_) | (with_reducible refine below_drewN ?_ _) | (with_reducible assumption) | (with_reducible refine below_after (by assumption) ?_)))⟩
  case round =>
    obtain ⟨k, pa, ca, rfl, hk, c0, Hp, ⟨c1, c2, f0⟩, ⟨r0, r1, r2, g0, g1, g2⟩, hsz, hb⟩ := hrel
    have hbs := hb.size
    by_cases hlt : k < n
    · have hlt2 : (k : Int) < (n : Int) := by omega
      have hkl : k < l.length := by have := Hn.out; omega
      have Hktl : Hid ((l.take k).length = k) := Lib.hid (by rw [List.length_take]; omega)
      obtain ⟨g, o, rfl, hg, hc⟩ := R.out (by have := Hn.out; omega)
      have at0 := (hc k hkl).below hg hb
      have Ht := Lib.hid (List.take_succ_eq_append_getElem hkl)
      have hel := rep_le Hl.out hkl
      obtain ⟨x, es⟩ : ∃ x, l[k] = x := ⟨_, rfl⟩
      rw [es] at at0 Ht hel
      clear hc es hkl
      obtain ⟨d0, ⟨u, d1, rr⟩, d2, zs⟩ := at_replica at0
      rw [show o + k * Cod.replica.size = o + k * 3 from rfl] at *
      obtain ⟨pr, cr, rfl, -⟩ := rr.form
      clear at0
      obtain ⟨up, L, sure⟩ := x
      dsimp only at *
      have Hcp := Lib.hid (fun (W : World) (b : Below wr.heap.size wr W) => copyEntries_r (.slice pr L.length cr) L hel W (rr.below b))
      have Hzs := Lib.hid zs
      clear rr hel zs
      generalize L.length = nL at *
      have Hroom : Hid ((k + 1) * 40 ≤ room) := Lib.hid (by unfold room; omega)
      have hz3 : w.heap.size + 3 ≤ wr.heap.size := hsz
      go_upto_region 5 with fail
      refine wp_region_d 11 (fun w' => w'.cell? ⟨w.heap.size + 1 + 1, 0, none⟩ = some (.slice pa k ca) ∧ w'.cell? ⟨wr.heap.size, 0, none⟩ = some (.bool up) ∧ w'.cell? ⟨wr.heap.size, 1, none⟩ = some (.slice pr nL cr) ∧ w'.cell? ⟨wr.heap.size, 2, none⟩ = some (.int .i64 sure)) (by kernel_rfl) ?_
      have hS : (wr.alloc (.cells #[.bool up, .slice pr nL cr, .int .i64 sure] 50)).drew.cell? ⟨w.heap.size + 1 + 1, 0, none⟩ = some (.slice pa k ca) ∧ (wr.alloc (.cells #[.bool up, .slice pr nL cr, .int .i64 sure] 50)).drew.cell? ⟨wr.heap.size, 0, none⟩ = some (.bool up) ∧ (wr.alloc (.cells #[.bool up, .slice pr nL cr, .int .i64 sure] 50)).drew.cell? ⟨wr.heap.size, 1, none⟩ = some (.slice pr nL cr) ∧ (wr.alloc (.cells #[.bool up, .slice pr nL cr, .int .i64 sure] 50)).drew.cell? ⟨wr.heap.size, 2, none⟩ = some (.int .i64 sure) :=
        ⟨cell_step (by (repeat (first | (with_reducible exact Below.refl _ _) | (with_reducible refine below_setCell ?_ (by first | (simp; done) | (simp; omega) | omega)) | (with_reducible refine below_alloc _ ?_) | (with_reducible refine below_drewN ?_ _) | (with_reducible refine below_drew_step ?_) | (with_reducible assumption) | (with_reducible refine below_after (by assumption) ?_)))) c0, by simp [go_sem], by simp [go_sem], by simp [go_sem]⟩
      refine d_take (f := 30) (v := ?_) 0 rfl (by kernel_rfl) (fun _ _ _ h => h) (Or.inl ⟨by rfl, ?_⟩) hS ?_
      rotate_left
      · intro wx hx
        obtain ⟨x0, x1, x2, x3⟩ := hx
        first | (go_simp; done) | (go_simp; with_reducible rfl)
      simp only [Act.put, List.setIfInBounds_toArray, List.set_cons_zero, List.set_cons_succ]
      refine d_take (f := 30) (v := ?_) 1 rfl (by kernel_rfl) (fun _ _ _ h => h) (Or.inl ⟨by rfl, ?_⟩) hS ?_
      rotate_left
      · intro wx hx
        obtain ⟨x0, x1, x2, x3⟩ := hx
        first | (go_simp; done) | (go_simp; with_reducible rfl)
      simp only [Act.put, List.setIfInBounds_toArray, List.set_cons_zero, List.set_cons_succ]
      refine d_take (f := 30) (v := ?_) 2 rfl (by kernel_rfl) (fun _ _ _ h => h) (Or.inl ⟨by rfl, ?_⟩) hS ?_
      rotate_left
      · intro wx hx
        obtain ⟨x0, x1, x2, x3⟩ := hx
        first | (go_simp; done) | (go_simp; with_reducible rfl)
      simp only [Act.put, List.setIfInBounds_toArray, List.set_cons_zero, List.set_cons_succ]
      refine d_take (f := 30) (v := ?_) 3 rfl (by kernel_rfl) (fun _ _ _ h => h) (Or.inl ⟨by rfl, ?_⟩) hS ?_
      rotate_left
      · intro wx hx
        obtain ⟨x0, x1, x2, x3⟩ := hx
        first | (go_simp; done) | (go_simp; with_reducible rfl)
      simp only [Act.put, List.setIfInBounds_toArray, List.set_cons_zero, List.set_cons_succ]
      refine d_take (f := 30) (v := ?_) 4 rfl (by kernel_rfl) (fun _ _ _ h => h) (Or.inl ⟨by rfl, ?_⟩) hS ?_
      rotate_left
      · intro wx hx
        obtain ⟨x0, x1, x2, x3⟩ := hx
        first | (go_simp; done) | (go_simp; with_reducible rfl)
      simp only [Act.put, List.setIfInBounds_toArray, List.set_cons_zero, List.set_cons_succ]
      refine d_take (f := 30) (v := ?_) 5 rfl (by kernel_rfl) (fun _ _ _ h => h) (Or.inl ⟨by rfl, ?_⟩) hS ?_
      rotate_left
      · intro wx hx
        obtain ⟨x0, x1, x2, x3⟩ := hx
        first | (go_simp; done) | (go_simp; with_reducible rfl)
      simp only [Act.put, List.setIfInBounds_toArray, List.set_cons_zero, List.set_cons_succ]
      refine d_take (f := 30) (v := ?_) 7 rfl (by kernel_rfl) (fun _ _ _ h => h) (Or.inl ⟨by rfl, ?_⟩) hS ?_
      rotate_left
      · intro wx hx
        obtain ⟨x0, x1, x2, x3⟩ := hx
        first | (go_simp; done) | (go_simp; with_reducible rfl)
      simp only [Act.put, List.setIfInBounds_toArray, List.set_cons_zero, List.set_cons_succ]
      refine d_take (f := 30) (v := ?_) 8 rfl (by kernel_rfl) (fun _ _ _ h => h) (Or.inl ⟨by rfl, ?_⟩) hS ?_
      rotate_left
      · intro wx hx
        obtain ⟨x0, x1, x2, x3⟩ := hx
        first | (go_simp; done) | (go_simp; with_reducible rfl)
      simp only [Act.put, List.setIfInBounds_toArray, List.set_cons_zero, List.set_cons_succ]
      clear hS
      refine d_step 6 (by kernel_rfl) rfl (fun K hK => ?_)
      go_simp
      go_at_call 37
      refine (Hcp.out _ (by (repeat (first | (with_reducible exact Below.refl _ _) | (with_reducible refine below_setCell ?_ (by first | (simp; done) | (simp; omega) | omega)) | (with_reducible refine below_alloc _ ?_) | (with_reducible refine below_drewN ?_ _) | (with_reducible refine below_drew_step ?_) | (with_reducible assumption) | (with_reducible refine below_after (by assumption) ?_))))).mono ?_
      rintro e w3 ⟨v', rfl, o3, k3⟩
      obtain ⟨p', c', rfl⟩ := o3.form
      have kb3 : Below wr.heap.size wr w3 := below_after k3 (by (repeat (first | (with_reducible exact Below.refl _ _) | (with_reducible refine below_setCell ?_ (by first | (simp; done) | (simp; omega) | omega)) | (with_reducible refine below_alloc _ ?_) | (with_reducible refine below_drewN ?_ _) | (with_reducible refine below_drew_step ?_) | (with_reducible assumption) | (with_reducible refine below_after (by assumption) ?_))))
      have e0 : w3.cell? ⟨wr.heap.size, 0, none⟩ = some (.bool up) := (bcell k3).1 _ _ (by simp) |>.trans (by simp [go_sem])
      have e1 : w3.cell? ⟨wr.heap.size, 1, none⟩ = some (.slice pr nL cr) := (bcell k3).1 _ _ (by simp) |>.trans (by simp [go_sem])
      have e2 : w3.cell? ⟨wr.heap.size, 2, none⟩ = some (.int .i64 sure) := (bcell k3).1 _ _ (by simp) |>.trans (by simp [go_sem])
      have c03 := cell_step kb3 c0
      have f03 := frozen_step kb3 c0 f0
      have hsz3 : w.heap.size + 1 + 1 < w3.heap.size := Nat.lt_of_lt_of_le hsz kb3.size
      have z3 : wr.heap.size < w3.heap.size := by have := k3.size; simp at this; omega
      obtain ⟨fv, rv, mv⟩ := o3
      have Hx := Lib.hid (mk_replicaR (up := up) rv Hzs.out)
      have Hmv : Hid (Mine w3 wr.heap.size fv) := Lib.hid (mv.mono (by first | exact Nat.le_refl _ | (simp; done) | (simp; omega)))
      clear rv mv k3
      have hS3 : w3.cell? ⟨w.heap.size + 1 + 1, 0, none⟩ = some (.slice pa k ca) ∧ w3.cell? ⟨wr.heap.size, 0, none⟩ = some (.bool up) ∧ w3.cell? ⟨wr.heap.size, 1, none⟩ = some (.slice pr nL cr) ∧ w3.cell? ⟨wr.heap.size, 2, none⟩ = some (.int .i64 sure) := ⟨c03, e0, e1, e2⟩
      refine hK.out _ _ (fun _ => hS3) ?_
      clear hK K
      try simp only [Act.put, List.setIfInBounds_toArray, List.set_cons_zero, List.set_cons_succ]
      refine d_takeY (v := ?_) 9 rfl (by kernel_rfl) (fun _ _ _ h => h) (Or.inl ⟨by rfl, ?_⟩) hS3 ?_
      rotate_left
      · intro wx _
        first | (go_simp; done) | (go_simp; with_reducible rfl)
      simp only [Act.put, List.setIfInBounds_toArray, List.set_cons_zero, List.set_cons_succ]
      refine d_step 10 (by kernel_rfl) rfl (fun K hK => ?_)
      go_simp
      refine hK.out _ _ (fun _ => ⟨(cell_alloc_old hsz3).trans c03, (cell_alloc_old z3).trans e0, (cell_alloc_old z3).trans e1, (cell_alloc_old z3).trans e2⟩) ?_
      clear hK K hS3
      try simp only [Act.put, List.setIfInBounds_toArray, List.set_cons_zero, List.set_cons_succ]
      refine d_step 11 (by kernel_rfl) rfl (fun K hK => ?_)
      refine step_append_partK (c := Cod.replicaR) w3 rfl (.tmp 19) (.tmp 28) 25 rfl (w.heap.size + 3) 50 50 i0 (.agg #[.bool false, .slice none 0 0, .int .i64 0]) 40 Try.underlying25 hi hz0 hz1 hz2 rfl (by decide) (by decide) wr (.slice pa k ca) k (l.take k) (by simp [Act.eval, Act.put]) Hp.out Hktl.out kb3 ⟨up, L, sure⟩ fv [.bool up, .slice p' L.length c', .int .i64 sure] rfl Hx.out Hmv.out w3.heap.size rfl (by simp [Act.eval, Act.put]) (by simp [Value.oneCell']) Hroom.out hz3 ?_
      intro g' cap' w4 hp4 hb4 _
      have Hp4 := Lib.hid hp4
      have hlt3 : w.heap.size + 1 + 1 < w.heap.size + 3 := Nat.lt_succ_self _
      have a0 := cell_from hb4 hlt3 c03
      have af := free_from hb4 hlt3 f03
      have z4 : w3.heap.size ≤ w4.heap.size := hb4.size
      clear hp4
      refine hK.out _ _ (fun h => by exact absurd h (by decide)) ?_
      clear hK K
      try simp only [Act.put, List.setIfInBounds_toArray, List.set_cons_zero, List.set_cons_succ]
      refine d_step 12 (by kernel_rfl) rfl (fun K hK => ?_)
      go_simp
      refine hK.out _ _ (fun h => by exact absurd h (by decide)) ?_
      clear hK K
      try simp only [Act.put, List.setIfInBounds_toArray, List.set_cons_zero, List.set_cons_succ]
      refine d_step 13 (by kernel_rfl) rfl (fun K hK => ?_)
      go_simp
      refine hK.out _ _ (fun h => by exact absurd h (by decide)) ?_
      clear hK K
      refine d_done (by kernel_rfl) ?_ _
      try simp only [Act.put, List.setIfInBounds_toArray, List.set_cons_zero, List.set_cons_succ]
      have h1 : Below w.heap.size w w4 := (hb.trans (kb3.mono hbs)).trans (hb4.mono (by omega))
      have HpN : Hid (PartV Cod.replicaR (w4.setCell ⟨w.heap.size + 1 + 1, 0, none⟩ (.slice (some ⟨g', 0, none⟩) (k + 1) cap')) (w.heap.size + 3) 50 (.slice (some ⟨g', 0, none⟩) (k + 1) cap') (k + 1) (l.take (k + 1))) := Lib.hid (by
        rw [Ht.out]
        exact PartV.keep (Or.inr Hp4.out) (keep_set (Keep.refl _ _) (Nat.lt_succ_self _)))
      go_wp2
      go_roundw
      case rel =>
        exact ⟨k + 1, _, cap', by go_num, by omega, World.cell?_setCell_same _ _ _ a0, HpN, ⟨(World.cell?_setCell_other _ _ _ _ (by simp)).trans (cell_from hb4 (by omega) (cell_step kb3 c1)), (World.cell?_setCell_other _ _ _ _ (by simp)).trans (cell_from hb4 (by omega) (cell_step kb3 c2)), by rw [World.frozen?_setCell]; exact af⟩,
          ⟨(World.cell?_setCell_other _ _ _ _ (by simp)).trans (cell_from hb4 (by omega) (cell_step kb3 r0)), (World.cell?_setCell_other _ _ _ _ (by simp)).trans (cell_from hb4 (by omega) (cell_step kb3 r1)), (World.cell?_setCell_other _ _ _ _ (by simp)).trans (cell_from hb4 (by omega) (cell_step kb3 r2)), by rw [World.frozen?_setCell]; exact free_from hb4 (by omega) (frozen_step kb3 r0 g0), by rw [World.frozen?_setCell]; exact free_from hb4 (by omega) (frozen_step kb3 r1 g1), by rw [World.frozen?_setCell]; exact free_from hb4 (by omega) (frozen_step kb3 r2 g2)⟩, by simp; omega, below_setCell h1 (by simp; omega)⟩
      case measure => simp [intOf]; omega
    · have hlt2 : (n : Int) ≤ (k : Int) := by omega
      obtain rfl : k = n := by omega
      have Ho : Hid (Own Cod.replicaR wr (w.heap.size + 3) (.slice pa k ca) l) := Lib.hid (by
        have := Hp.out.own (by rw [List.length_take]; have := Hn.out; omega)
        rwa [List.take_of_length_le (by have := Hn.out; omega)] at this)
      clear Hp
      go_wp2
      refine bodyPost_ret (v := .agg #[.slice pa k ca, .int .i64 term, .int .i64 lead]) (by simp [results, Try.results27, go_sem, r0, r1, r2, g0, g1, g2]) rfl ⟨_, rfl, ?_, ?_⟩
      · exact (Ho.out.keep (B := w.heap.size + 3) (Nat.le_refl _) (by (repeat (first | (with_reducible exact Keep.refl _ _) | (with_reducible refine keep_set ?_ (by first | (simp; done) | (simp; omega) | omega)) | (with_reducible refine keep_alloc _ ?_) | (with_reducible refine keep_drewN ?_ _) | (with_reducible assumption) | (with_reducible refine keep_below (by assumption) ?_))))).mono (by omega)
      · (repeat (first | (with_reducible exact Below.refl _ _) | (with_reducible refine below_setCell ?_ (by first | (simp; done) | (simp; omega) | omega)) | (with_reducible refine below_alloc _ ?_) | (with_reducible refine below_drewN ?_ _) | (with_reducible assumption) | (with_reducible refine below_after (by assumption) ?_)))

end Go.Proofs.Ytfaefjdlfjhniaa


/- spec.l9Own. -/
namespace Go.Proofs.Ytfaefjdlfjhniaa
open Go.RowKit

set_option maxRecDepth 100000 in
set_option maxHeartbeats 6400000 in
/-- spec.l9Own -/
theorem l9Own_any (v : Value) (l : List ReplicaD) (term lead : Int) (hl : costReplicaS l ≤ 1048576) (w : World) (h : Rd Cod.replica w v l) :
    Calls Try.prog 33 #[.agg #[v, .int .i64 term, .int .i64 lead]] w fun e w' => ∃ v', e = .returned (.agg #[v', .int .i64 term, .int .i64 lead]) ∧ Own Cod.replicaR w' w.heap.size v' l ∧ Below w.heap.size w w' := by
  obtain ⟨i0, hi, hz0, hz1, hz2⟩ := info_parts Try_info_replica
  obtain ⟨p, c, rfl, _, _, r⟩ := h.form
  have R := Lib.hid r
  have Hl := Lib.hid hl
  clear r h
  obtain ⟨n, hn⟩ : ∃ n : Nat, l.length = n := ⟨_, rfl⟩
  have Hn := Lib.hid hn
  have hnb : (n : Int) ≤ 1048576 := by unfold costReplicaS at hl; omega
  rw [hn]
  clear hn hl
  go_enter Try.func33, Try.ntmps33
  go_wp2
  go_loopw [4] (fun i wr => ∃ (k : Nat) (pa : Option Addr) (ca : Nat), i = .int .i64 (k : Int) ∧ k ≤ n ∧ wr.cell? ⟨w.heap.size + 1 + 1 + 1, 0, none⟩ = some (.slice pa k ca) ∧ Hid (PartV Cod.replicaR wr (w.heap.size + 4) 50 (.slice pa k ca) k (l.take k)) ∧
    (wr.cell? ⟨w.heap.size + 1 + 1 + 1, 1, none⟩ = some (.int .i64 term) ∧ wr.cell? ⟨w.heap.size + 1 + 1 + 1, 2, none⟩ = some (.int .i64 lead) ∧ wr.frozen? ⟨w.heap.size + 1 + 1 + 1, 0, none⟩ = false ∧ wr.cell? ⟨w.heap.size, 0, none⟩ = some (.slice p n c)) ∧
    (wr.cell? ⟨w.heap.size + 1, 0, none⟩ = some (.slice none 0 0) ∧ wr.cell? ⟨w.heap.size + 1, 1, none⟩ = some (.int .i64 0) ∧ wr.cell? ⟨w.heap.size + 1, 2, none⟩ = some (.int .i64 0) ∧ wr.frozen? ⟨w.heap.size + 1, 0, none⟩ = false ∧ wr.frozen? ⟨w.heap.size + 1, 1, none⟩ = false ∧ wr.frozen? ⟨w.heap.size + 1, 2, none⟩ = false) ∧
    w.heap.size + 1 + 1 + 1 < wr.heap.size ∧ Below w.heap.size w wr) (fun i _ => n - (intOf i).toNat)
  case atStart => exact ⟨0, some ⟨w.heap.size + 1 + 1, 0, none⟩, 0, rfl, Nat.zero_le _, by simp [go_sem], Lib.hid (Or.inl ⟨_, rfl, rfl, rfl⟩), ⟨by simp [go_sem], by simp [go_sem], by simp [go_sem], by simp [go_sem]⟩, ⟨by simp [go_sem], by simp [go_sem], by simp [go_sem], by simp [go_sem], by simp [go_sem], by simp [go_sem]⟩, by simp, by (repeat (first | (with_reducible exact Below.refl _ _) | (with_reducible refine below_setCell ?_ (by first | (simp; done) | (simp; omega) | omega)) | (with_reducible refine below_alloc _ ?_) | (with_reducible refine below_drewN ?_ _) | (with_reducible assumption) | (with_reducible refine below_after (by assumption) ?_)))⟩
  case round =>
    obtain ⟨k, pa, ca, rfl, hk, c0, Hp, ⟨c1, c2, f0, c3⟩, ⟨r0, r1, r2, g0, g1, g2⟩, hsz, hb⟩ := hrel
    have hbs := hb.size
    by_cases hlt : k < n
    · have hlt2 : (k : Int) < (n : Int) := by omega
      have hk0 : (0 : Int) ≤ (k : Int) := by omega
      have hkl : k < l.length := by have := Hn.out; omega
      have Hktl : Hid ((l.take k).length = k) := Lib.hid (by rw [List.length_take]; omega)
      obtain ⟨g, o, rfl, hg, hc⟩ := R.out (by have := Hn.out; omega)
      have at0 := (hc k hkl).below hg hb
      have Ht := Lib.hid (List.take_succ_eq_append_getElem hkl)
      have hel := rep_le Hl.out hkl
      obtain ⟨x, es⟩ : ∃ x, l[k] = x := ⟨_, rfl⟩
      rw [es] at at0 Ht hel
      clear hc es hkl
      obtain ⟨d0, ⟨u, d1, rr⟩, d2, zs⟩ := at_replica at0
      rw [show o + k * Cod.replica.size = o + k * 3 from rfl] at *
      obtain ⟨pr, cr, rfl, -⟩ := rr.form
      clear at0
      obtain ⟨up, L, sure⟩ := x
      dsimp only at *
      have Hcp := Lib.hid (fun (W : World) (b : Below wr.heap.size wr W) => l9OwnLog_r (.slice pr L.length cr) L hel W (rr.below b))
      have Hzs := Lib.hid zs
      clear rr hel zs
      generalize L.length = nL at *
      have Hroom : Hid ((k + 1) * 40 ≤ room) := Lib.hid (by unfold room; omega)
      have hz3 : w.heap.size + 4 ≤ wr.heap.size := hsz
      go_upto_region 5 with fail
      refine wp_region_d 23 (fun w' => w'.cell? ⟨w.heap.size + 1 + 1 + 1, 0, none⟩ = some (.slice pa k ca) ∧ w'.cell? ⟨w.heap.size, 0, none⟩ = some (.slice (some ⟨g, o, none⟩) n c) ∧ w'.cell? ⟨g, o + k * 3, none⟩ = some (.bool up) ∧ w'.cell? ⟨g, o + k * 3 + 1, none⟩ = some (.slice pr nL cr) ∧ w'.cell? ⟨g, o + k * 3 + 2, none⟩ = some (.int .i64 sure)) (by kernel_rfl) ?_
      have hS : wr.drew.cell? ⟨w.heap.size + 1 + 1 + 1, 0, none⟩ = some (.slice pa k ca) ∧ wr.drew.cell? ⟨w.heap.size, 0, none⟩ = some (.slice (some ⟨g, o, none⟩) n c) ∧ wr.drew.cell? ⟨g, o + k * 3, none⟩ = some (.bool up) ∧ wr.drew.cell? ⟨g, o + k * 3 + 1, none⟩ = some (.slice pr nL cr) ∧ wr.drew.cell? ⟨g, o + k * 3 + 2, none⟩ = some (.int .i64 sure) := ⟨c0, c3, d0, d1, d2⟩
      refine d_take (f := 30) (v := ?_) 0 rfl (by kernel_rfl) (fun _ _ _ h => h) (Or.inl ⟨by rfl, ?_⟩) hS ?_
      rotate_left
      · intro wx hx
        obtain ⟨x0, x1, x2, x3, x4⟩ := hx
        first | (go_simp; done) | (go_simp; with_reducible rfl)
      simp only [Act.put, List.setIfInBounds_toArray, List.set_cons_zero, List.set_cons_succ]
      refine d_take (f := 30) (v := ?_) 1 rfl (by kernel_rfl) (fun _ _ _ h => h) (Or.inl ⟨by rfl, ?_⟩) hS ?_
      rotate_left
      · intro wx hx
        obtain ⟨x0, x1, x2, x3, x4⟩ := hx
        first | (go_simp; done) | (go_simp; with_reducible rfl)
      simp only [Act.put, List.setIfInBounds_toArray, List.set_cons_zero, List.set_cons_succ]
      refine d_take (f := 30) (v := ?_) 2 rfl (by kernel_rfl) (fun _ _ _ h => h) (Or.inl ⟨by rfl, ?_⟩) hS ?_
      rotate_left
      · intro wx hx
        obtain ⟨x0, x1, x2, x3, x4⟩ := hx
        first | (go_simp; done) | (go_simp; with_reducible rfl)
      simp only [Act.put, List.setIfInBounds_toArray, List.set_cons_zero, List.set_cons_succ]
      refine d_take (f := 30) (v := ?_) 3 rfl (by kernel_rfl) (fun _ _ _ h => h) (Or.inl ⟨by rfl, ?_⟩) hS ?_
      rotate_left
      · intro wx hx
        obtain ⟨x0, x1, x2, x3, x4⟩ := hx
        first | (go_simp; done) | (go_simp; with_reducible rfl)
      simp only [Act.put, List.setIfInBounds_toArray, List.set_cons_zero, List.set_cons_succ]
      refine d_take (f := 30) (v := ?_) 4 rfl (by kernel_rfl) (fun _ _ _ h => h) (Or.inl ⟨by rfl, ?_⟩) hS ?_
      rotate_left
      · intro wx hx
        obtain ⟨x0, x1, x2, x3, x4⟩ := hx
        first | (go_simp; done) | (go_simp; with_reducible rfl)
      simp only [Act.put, List.setIfInBounds_toArray, List.set_cons_zero, List.set_cons_succ]
      refine d_take (f := 30) (v := ?_) 5 rfl (by kernel_rfl) (fun _ _ _ h => h) (Or.inl ⟨by rfl, ?_⟩) hS ?_
      rotate_left
      · intro wx hx
        obtain ⟨x0, x1, x2, x3, x4⟩ := hx
        first | (go_simp; done) | (go_simp; with_reducible rfl)
      simp only [Act.put, List.setIfInBounds_toArray, List.set_cons_zero, List.set_cons_succ]
      refine d_take (f := 30) (v := ?_) 6 rfl (by kernel_rfl) (fun _ _ _ h => h) (Or.inl ⟨by rfl, ?_⟩) hS ?_
      rotate_left
      · intro wx hx
        obtain ⟨x0, x1, x2, x3, x4⟩ := hx
        first | (go_simp; done) | (go_simp; with_reducible rfl)
      simp only [Act.put, List.setIfInBounds_toArray, List.set_cons_zero, List.set_cons_succ]
      refine d_take (f := 30) (v := ?_) 7 rfl (by kernel_rfl) (fun _ _ _ h => h) (Or.inl ⟨by rfl, ?_⟩) hS ?_
      rotate_left
      · intro wx hx
        obtain ⟨x0, x1, x2, x3, x4⟩ := hx
        first | (go_simp; done) | (go_simp; with_reducible rfl)
      simp only [Act.put, List.setIfInBounds_toArray, List.set_cons_zero, List.set_cons_succ]
      refine d_take (f := 30) (v := ?_) 8 rfl (by kernel_rfl) (fun _ _ _ h => h) (Or.inl ⟨by rfl, ?_⟩) hS ?_
      rotate_left
      · intro wx hx
        obtain ⟨x0, x1, x2, x3, x4⟩ := hx
        first | (go_simp; done) | (go_simp; with_reducible rfl)
      simp only [Act.put, List.setIfInBounds_toArray, List.set_cons_zero, List.set_cons_succ]
      refine d_take (f := 30) (v := ?_) 9 rfl (by kernel_rfl) (fun _ _ _ h => h) (Or.inl ⟨by rfl, ?_⟩) hS ?_
      rotate_left
      · intro wx hx
        obtain ⟨x0, x1, x2, x3, x4⟩ := hx
        first | (go_simp; done) | (go_simp; with_reducible rfl)
      simp only [Act.put, List.setIfInBounds_toArray, List.set_cons_zero, List.set_cons_succ]
      refine d_take (f := 30) (v := ?_) 10 rfl (by kernel_rfl) (fun _ _ _ h => h) (Or.inl ⟨by rfl, ?_⟩) hS ?_
      rotate_left
      · intro wx hx
        obtain ⟨x0, x1, x2, x3, x4⟩ := hx
        first | (go_simp; done) | (go_simp; with_reducible rfl)
      simp only [Act.put, List.setIfInBounds_toArray, List.set_cons_zero, List.set_cons_succ]
      refine d_take (f := 30) (v := ?_) 11 rfl (by kernel_rfl) (fun _ _ _ h => h) (Or.inl ⟨by rfl, ?_⟩) hS ?_
      rotate_left
      · intro wx hx
        obtain ⟨x0, x1, x2, x3, x4⟩ := hx
        first | (go_simp; done) | (go_simp; with_reducible rfl)
      simp only [Act.put, List.setIfInBounds_toArray, List.set_cons_zero, List.set_cons_succ]
      refine d_take (f := 30) (v := ?_) 12 rfl (by kernel_rfl) (fun _ _ _ h => h) (Or.inl ⟨by rfl, ?_⟩) hS ?_
      rotate_left
      · intro wx hx
        obtain ⟨x0, x1, x2, x3, x4⟩ := hx
        first | (go_simp; done) | (go_simp; with_reducible rfl)
      simp only [Act.put, List.setIfInBounds_toArray, List.set_cons_zero, List.set_cons_succ]
      refine d_take (f := 30) (v := ?_) 13 rfl (by kernel_rfl) (fun _ _ _ h => h) (Or.inl ⟨by rfl, ?_⟩) hS ?_
      rotate_left
      · intro wx hx
        obtain ⟨x0, x1, x2, x3, x4⟩ := hx
        first | (go_simp; done) | (go_simp; with_reducible rfl)
      simp only [Act.put, List.setIfInBounds_toArray, List.set_cons_zero, List.set_cons_succ]
      refine d_take (f := 30) (v := ?_) 15 rfl (by kernel_rfl) (fun _ _ _ h => h) (Or.inl ⟨by rfl, ?_⟩) hS ?_
      rotate_left
      · intro wx hx
        obtain ⟨x0, x1, x2, x3, x4⟩ := hx
        first | (go_simp; done) | (go_simp; with_reducible rfl)
      simp only [Act.put, List.setIfInBounds_toArray, List.set_cons_zero, List.set_cons_succ]
      refine d_take (f := 30) (v := ?_) 16 rfl (by kernel_rfl) (fun _ _ _ h => h) (Or.inl ⟨by rfl, ?_⟩) hS ?_
      rotate_left
      · intro wx hx
        obtain ⟨x0, x1, x2, x3, x4⟩ := hx
        first | (go_simp; done) | (go_simp; with_reducible rfl)
      simp only [Act.put, List.setIfInBounds_toArray, List.set_cons_zero, List.set_cons_succ]
      refine d_take (f := 30) (v := ?_) 17 rfl (by kernel_rfl) (fun _ _ _ h => h) (Or.inl ⟨by rfl, ?_⟩) hS ?_
      rotate_left
      · intro wx hx
        obtain ⟨x0, x1, x2, x3, x4⟩ := hx
        first | (go_simp; done) | (go_simp; with_reducible rfl)
      simp only [Act.put, List.setIfInBounds_toArray, List.set_cons_zero, List.set_cons_succ]
      refine d_take (f := 30) (v := ?_) 18 rfl (by kernel_rfl) (fun _ _ _ h => h) (Or.inl ⟨by rfl, ?_⟩) hS ?_
      rotate_left
      · intro wx hx
        obtain ⟨x0, x1, x2, x3, x4⟩ := hx
        first | (go_simp; done) | (go_simp; with_reducible rfl)
      simp only [Act.put, List.setIfInBounds_toArray, List.set_cons_zero, List.set_cons_succ]
      refine d_take (f := 30) (v := ?_) 19 rfl (by kernel_rfl) (fun _ _ _ h => h) (Or.inl ⟨by rfl, ?_⟩) hS ?_
      rotate_left
      · intro wx hx
        obtain ⟨x0, x1, x2, x3, x4⟩ := hx
        first | (go_simp; done) | (go_simp; with_reducible rfl)
      simp only [Act.put, List.setIfInBounds_toArray, List.set_cons_zero, List.set_cons_succ]
      refine d_take (f := 30) (v := ?_) 20 rfl (by kernel_rfl) (fun _ _ _ h => h) (Or.inl ⟨by rfl, ?_⟩) hS ?_
      rotate_left
      · intro wx hx
        obtain ⟨x0, x1, x2, x3, x4⟩ := hx
        first | (go_simp; done) | (go_simp; with_reducible rfl)
      simp only [Act.put, List.setIfInBounds_toArray, List.set_cons_zero, List.set_cons_succ]
      clear hS
      refine d_step 14 (by kernel_rfl) rfl (fun K hK => ?_)
      go_simp
      go_at_call 53
      refine (Hcp.out _ (by (repeat (first | (with_reducible exact Below.refl _ _) | (with_reducible refine below_setCell ?_ (by first | (simp; done) | (simp; omega) | omega)) | (with_reducible refine below_alloc _ ?_) | (with_reducible refine below_drewN ?_ _) | (with_reducible refine below_drew_step ?_) | (with_reducible assumption) | (with_reducible refine below_after (by assumption) ?_))))).mono ?_
      rintro e w3 ⟨v', rfl, o3, k3⟩
      obtain ⟨p', c', rfl⟩ := o3.form
      have kb3 : Below wr.heap.size wr w3 := below_after k3 (by (repeat (first | (with_reducible exact Below.refl _ _) | (with_reducible refine below_setCell ?_ (by first | (simp; done) | (simp; omega) | omega)) | (with_reducible refine below_alloc _ ?_) | (with_reducible refine below_drewN ?_ _) | (with_reducible refine below_drew_step ?_) | (with_reducible assumption) | (with_reducible refine below_after (by assumption) ?_))))
      have c03 := cell_step kb3 c0
      have c33 := cell_step kb3 c3
      have e0 := cell_step kb3 d0
      have e1 := cell_step kb3 d1
      have e2 := cell_step kb3 d2
      have f03 := frozen_step kb3 c0 f0
      have hsz3 : w.heap.size + 1 + 1 + 1 < w3.heap.size := Nat.lt_of_lt_of_le hsz kb3.size
      have hsz4 : w.heap.size < w3.heap.size := by omega
      have hg3 : g < w3.heap.size := World.block_lt_of_cell? _ _ e0
      obtain ⟨fv, rv, mv⟩ := o3
      have Hx := Lib.hid (mk_replicaR (up := up) rv Hzs.out)
      have Hmv : Hid (Mine w3 wr.heap.size fv) := Lib.hid (mv.mono (by first | exact Nat.le_refl _ | (simp; done) | (simp; omega)))
      clear rv mv k3
      have hS3 : w3.cell? ⟨w.heap.size + 1 + 1 + 1, 0, none⟩ = some (.slice pa k ca) ∧ w3.cell? ⟨w.heap.size, 0, none⟩ = some (.slice (some ⟨g, o, none⟩) n c) ∧ w3.cell? ⟨g, o + k * 3, none⟩ = some (.bool up) ∧ w3.cell? ⟨g, o + k * 3 + 1, none⟩ = some (.slice pr nL cr) ∧ w3.cell? ⟨g, o + k * 3 + 2, none⟩ = some (.int .i64 sure) := ⟨c03, c33, e0, e1, e2⟩
      refine hK.out _ _ (fun _ => hS3) ?_
      clear hK K
      try simp only [Act.put, List.setIfInBounds_toArray, List.set_cons_zero, List.set_cons_succ]
      refine d_takeY (v := ?_) 21 rfl (by kernel_rfl) (fun _ _ _ h => h) (Or.inl ⟨by rfl, ?_⟩) hS3 ?_
      rotate_left
      · intro wx _
        first | (go_simp; done) | (go_simp; with_reducible rfl)
      simp only [Act.put, List.setIfInBounds_toArray, List.set_cons_zero, List.set_cons_succ]
      refine d_step 22 (by kernel_rfl) rfl (fun K hK => ?_)
      go_simp
      refine hK.out _ _ (fun _ => ⟨(cell_alloc_old hsz3).trans c03, (cell_alloc_old hsz4).trans c33, (cell_alloc_old hg3).trans e0, (cell_alloc_old hg3).trans e1, (cell_alloc_old hg3).trans e2⟩) ?_
      clear hK K hS3
      try simp only [Act.put, List.setIfInBounds_toArray, List.set_cons_zero, List.set_cons_succ]
      refine d_step 23 (by kernel_rfl) rfl (fun K hK => ?_)
      refine step_append_partK (c := Cod.replicaR) w3 rfl (.tmp 19) (.tmp 40) 25 rfl (w.heap.size + 4) 50 50 i0 (.agg #[.bool false, .slice none 0 0, .int .i64 0]) 40 Try.underlying25 hi hz0 hz1 hz2 rfl (by decide) (by decide) wr (.slice pa k ca) k (l.take k) (by simp [Act.eval, Act.put]) Hp.out Hktl.out kb3 ⟨up, L, sure⟩ fv [.bool up, .slice p' L.length c', .int .i64 sure] rfl Hx.out Hmv.out w3.heap.size rfl (by simp [Act.eval, Act.put]) (by simp [Value.oneCell']) Hroom.out hz3 ?_
      intro g' cap' w4 hp4 hb4 _
      have Hp4 := Lib.hid hp4
      have hlt3 : w.heap.size + 1 + 1 + 1 < w.heap.size + 4 := Nat.lt_succ_self _
      have a0 := cell_from hb4 hlt3 c03
      have af := free_from hb4 hlt3 f03
      have z4 : w3.heap.size ≤ w4.heap.size := hb4.size
      clear hp4
      refine hK.out _ _ (fun h => by exact absurd h (by decide)) ?_
      clear hK K
      try simp only [Act.put, List.setIfInBounds_toArray, List.set_cons_zero, List.set_cons_succ]
      refine d_step 24 (by kernel_rfl) rfl (fun K hK => ?_)
      go_simp
      refine hK.out _ _ (fun h => by exact absurd h (by decide)) ?_
      clear hK K
      try simp only [Act.put, List.setIfInBounds_toArray, List.set_cons_zero, List.set_cons_succ]
      refine d_step 25 (by kernel_rfl) rfl (fun K hK => ?_)
      go_simp
      refine hK.out _ _ (fun h => by exact absurd h (by decide)) ?_
      clear hK K
      refine d_done (by kernel_rfl) ?_ _
      try simp only [Act.put, List.setIfInBounds_toArray, List.set_cons_zero, List.set_cons_succ]
      have h1 : Below w.heap.size w w4 := (hb.trans (kb3.mono hbs)).trans (hb4.mono (by omega))
      have HpN : Hid (PartV Cod.replicaR (w4.setCell ⟨w.heap.size + 1 + 1 + 1, 0, none⟩ (.slice (some ⟨g', 0, none⟩) (k + 1) cap')) (w.heap.size + 4) 50 (.slice (some ⟨g', 0, none⟩) (k + 1) cap') (k + 1) (l.take (k + 1))) := Lib.hid (by
        rw [Ht.out]
        exact PartV.keep (Or.inr Hp4.out) (keep_set (Keep.refl _ _) (Nat.lt_succ_self _)))
      go_wp2
      go_roundw
      case rel =>
        exact ⟨k + 1, _, cap', by go_num, by omega, World.cell?_setCell_same _ _ _ a0, HpN, ⟨(World.cell?_setCell_other _ _ _ _ (by simp)).trans (cell_from hb4 (by omega) (cell_step kb3 c1)), (World.cell?_setCell_other _ _ _ _ (by simp)).trans (cell_from hb4 (by omega) (cell_step kb3 c2)), by rw [World.frozen?_setCell]; exact af, (World.cell?_setCell_other _ _ _ _ (by simp)).trans (cell_from hb4 (by omega) (cell_step kb3 c3))⟩,
          ⟨(World.cell?_setCell_other _ _ _ _ (by simp)).trans (cell_from hb4 (by omega) (cell_step kb3 r0)), (World.cell?_setCell_other _ _ _ _ (by simp)).trans (cell_from hb4 (by omega) (cell_step kb3 r1)), (World.cell?_setCell_other _ _ _ _ (by simp)).trans (cell_from hb4 (by omega) (cell_step kb3 r2)), by rw [World.frozen?_setCell]; exact free_from hb4 (by omega) (frozen_step kb3 r0 g0), by rw [World.frozen?_setCell]; exact free_from hb4 (by omega) (frozen_step kb3 r1 g1), by rw [World.frozen?_setCell]; exact free_from hb4 (by omega) (frozen_step kb3 r2 g2)⟩, by simp; omega, below_setCell h1 (by simp; omega)⟩
      case measure => simp [intOf]; omega
    · have hlt2 : (n : Int) ≤ (k : Int) := by omega
      obtain rfl : k = n := by omega
      have Ho : Hid (Own Cod.replicaR wr (w.heap.size + 4) (.slice pa k ca) l) := Lib.hid (by
        have := Hp.out.own (by rw [List.length_take]; have := Hn.out; omega)
        rwa [List.take_of_length_le (by have := Hn.out; omega)] at this)
      clear Hp
      go_wp2
      refine bodyPost_ret (v := .agg #[.slice pa k ca, .int .i64 term, .int .i64 lead]) (by simp [results, Try.results33, go_sem, r0, r1, r2, g0, g1, g2]) rfl ⟨_, rfl, ?_, ?_⟩
      · exact (Ho.out.keep (B := w.heap.size + 4) (Nat.le_refl _) (by (repeat (first | (with_reducible exact Keep.refl _ _) | (with_reducible refine keep_set ?_ (by first | (simp; done) | (simp; omega) | omega)) | (with_reducible refine keep_alloc _ ?_) | (with_reducible refine keep_drewN ?_ _) | (with_reducible assumption) | (with_reducible refine keep_below (by assumption) ?_))))).mono (by omega)
      · (repeat (first | (with_reducible exact Below.refl _ _) | (with_reducible refine below_setCell ?_ (by first | (simp; done) | (simp; omega) | omega)) | (with_reducible refine below_alloc _ ?_) | (with_reducible refine below_drewN ?_ _) | (with_reducible assumption) | (with_reducible refine below_after (by assumption) ?_)))

end Go.Proofs.Ytfaefjdlfjhniaa


/- A replica of a group of the call's own is turned; spec.l9Up. -/
namespace Go.Proofs.Ytfaefjdlfjhniaa
open Go.RowKit

theorem own_setUp {w : World} {base g o n cap : Nat} {l : List ReplicaD} (h : Own Cod.replicaR w base (.slice (some ⟨g, o, none⟩) n cap) l) (k : Nat) (hk : k < l.length) (b : Bool) :
    Own Cod.replicaR (w.setCell ⟨g, o + k * 3, none⟩ (.bool b)) base (.slice (some ⟨g, o, none⟩) n cap) (l.set k { l[k] with Up := b }) := by
  obtain ⟨fp, ⟨a, cap', e, h1, h2, h3, h4⟩, m⟩ := h
  injection e with e1 e2 e3
  subst e1 e2 e3
  rcases h4 with ⟨rfl, _⟩ | ⟨b', off, fs, e, rfl, hb, he⟩
  · simp at hk
  injection e with e
  injection e with e1 e2
  subst e1 e2
  have hg : ∀ d ∈ fs.flatten, d ≠ g := fun d hd e => (List.nodup_cons.1 m.nodup).1 (e ▸ hd)
  have hh : ∀ d ∈ fs.flatten, (w.setCell ⟨g, o + k * 3, none⟩ (.bool b)).heap[d]? = w.heap[d]? := fun d hd => heap_setCell_other w ⟨g, o + k * 3, none⟩ d (.bool b) (hg d hd)
  refine ⟨g :: fs.flatten, ⟨_, cap, by rw [List.length_set], by rw [List.length_set]; exact h1, h2, h3, Or.inr ⟨g, o, fs, rfl, rfl, by simpa [World.setCell] using hb, elems_set he k hk _ (fun f hf => ?_) (fun i hi => ?_) (fun j _ f hf d hd => ?_)⟩⟩,
    ⟨m.nodup, m.low, fun d hd i => by rw [World.frozen?_setCell]; exact m.free d hd i⟩⟩
  · obtain ⟨f', hf', hr⟩ := Cod.elems_at _ he k hk
    rw [hf] at hf'
    injection hf' with hf'
    subst hf'
    obtain ⟨f1, f2, e, ⟨q0, _, e1⟩, q2⟩ := hr
    subst e1
    rw [List.nil_append] at e
    subst e
    have hin : ∀ d ∈ f, d ∈ fs.flatten := fun d hd => List.mem_flatten.2 ⟨f, List.mem_of_getElem? hf, hd⟩
    have q0' : w.cell? ⟨g, o + k * 3 + 0, none⟩ = some (.bool l[k].Up) := q0
    rw [Nat.add_zero] at q0'
    refine ⟨[], f, rfl, ⟨?_, trivial, rfl⟩, (Cod.pair (Cod.sliceR Cod.entry) Cod.int).ext (fun j _ => ?_) ((Cod.pair (Cod.sliceR Cod.entry) Cod.int).frame (fun d hd => hh d (hin d hd)) q2)⟩
    · show (w.setCell ⟨g, o + k * 3, none⟩ (.bool b)).cell? ⟨g, o + k * 3 + 0, none⟩ = _
      rw [Nat.add_zero]
      exact World.cell?_setCell_same _ _ _ q0'
    · show w.cell? ⟨g, o + k * 3 + (1 + j), none⟩ = (w.setCell ⟨g, o + k * 3, none⟩ (.bool b)).cell? ⟨g, o + k * 3 + (1 + j), none⟩
      rw [World.cell?_setCell_other _ _ _ _ (fun e => by injection e; omega)]
  · refine World.cell?_setCell_other _ _ _ _ (fun e => ?_)
    injection e with _ e _
    have hs : Cod.replicaR.size = 3 := rfl
    rw [hs, Nat.add_mul] at hi
    omega
  · exact hh d (List.mem_flatten.2 ⟨f, List.mem_of_getElem? hf, hd⟩)

/-- Is there a replica of that number, up or not as said? -/
def upIs (l : List ReplicaD) (r : Int) (b : Bool) : Bool := decide (0 ≤ r) && match l[r.toNat]? with
  | some x => x.Up == b
  | none => false

theorem upIs_nat {l : List ReplicaD} {m : Nat} (h : m < l.length) (b : Bool) : upIs l (m : Int) b = (l[m].Up == b) := by
  unfold upIs
  rw [Int.toNat_natCast, List.getElem?_eq_getElem h, decide_eq_true (by omega)]
  rfl
theorem upIs_out {l : List ReplicaD} {r : Int} (h : inB r 0 ((l.length : Int) - 1) = false) (b : Bool) : upIs l r b = false := by
  unfold upIs
  by_cases h0 : 0 ≤ r
  · have : ¬ r.toNat < l.length := fun hl => by
      have : inB r 0 ((l.length : Int) - 1) = true := inB_iff.2 (by omega)
      rw [h] at this
      cases this
    rw [List.getElem?_eq_none (by omega)]
    simp
  · rw [decide_eq_false h0]
    rfl

end Go.Proofs.Ytfaefjdlfjhniaa


/- Is that replica of a drawn group up, or down? spec.l9Up. -/
namespace Go.Proofs.Ytfaefjdlfjhniaa
open Go.RowKit

set_option maxRecDepth 100000 in
set_option maxHeartbeats 1600000 in
/-- spec.l9Up -/
theorem l9Up_any (v : Value) (l : List ReplicaD) (term lead r : Int) (b : Bool) (ht : I64 term) (hd : I64 lead) (hl : costReplicaS l ≤ 1048576) (w : World) (h : Rd Cod.replica w v l) :
    Calls Try.prog 31 #[.agg #[v, .int .i64 term, .int .i64 lead], .int .i64 r, .bool b] w fun e w' => e = .returned (.bool (goodGB l term lead && upIs l r b)) ∧ Below w.heap.size w w' := by
  have Hg := Lib.hid (fun (W : World) (k : Below w.heap.size w W) => goodGroupS_any v l term lead ht hd hl W (h.below k))
  obtain ⟨p, c, rfl, _, _, rr⟩ := h.form
  have R := Lib.hid rr
  obtain ⟨n, hn⟩ : ∃ n : Nat, l.length = n := ⟨_, rfl⟩
  have Hn := Lib.hid hn
  have hnb : (n : Int) ≤ 1048576 := by unfold costReplicaS at hl; omega
  have Ho : Hid (inB r 0 ((n : Int) - 1) = false → upIs l r b = false) := Lib.hid fun h => upIs_out (by rw [hn]; exact h) b
  rw [hn] at Hg ⊢
  have Hi : Hid (∀ W, Calls Try.prog 51 #[.int .i64 r, .int .i64 0, .int .i64 ((n : Int) - 1)] W fun e w' => e = .returned (.bool (inB r 0 ((n : Int) - 1))) ∧ W = w') := Lib.hid (fun W => l1In_any r 0 ((n : Int) - 1) W)
  clear hn hl h rr
  generalize goodGB l term lead = q at *
  cases q
  · go_enter Try.func31, Try.ntmps31
    go_wp2_with fail
    refine (Hg.out _ (by (repeat (first | (with_reducible exact Below.refl _ _) | (with_reducible refine below_setCell ?_ (by first | (simp; done) | (simp; omega) | omega)) | (with_reducible refine below_alloc _ ?_) | (with_reducible refine below_drewN ?_ _) | (with_reducible assumption) | (with_reducible refine below_after (by assumption) ?_))))).mono ?_
    rintro e w1 ⟨rfl, k1⟩
    go_wp2
    go_ret
    exact ⟨ret_bool (by simp), by (repeat (first | (with_reducible exact Below.refl _ _) | (with_reducible refine below_setCell ?_ (by first | (simp; done) | (simp; omega) | omega)) | (with_reducible refine below_alloc _ ?_) | (with_reducible refine below_drewN ?_ _) | (with_reducible assumption) | (with_reducible refine below_after (by assumption) ?_)))⟩
  · generalize hq : inB r 0 ((n : Int) - 1) = q2 at *
    cases q2
    · have Hu := Lib.hid (Ho.out rfl)
      clear hq
      go_enter Try.func31, Try.ntmps31
      go_wp2_with fail
      refine (Hg.out _ (by (repeat (first | (with_reducible exact Below.refl _ _) | (with_reducible refine below_setCell ?_ (by first | (simp; done) | (simp; omega) | omega)) | (with_reducible refine below_alloc _ ?_) | (with_reducible refine below_drewN ?_ _) | (with_reducible assumption) | (with_reducible refine below_after (by assumption) ?_))))).mono ?_
      rintro e w1 ⟨rfl, k1⟩
      have c0 : w1.cell? ⟨w.heap.size, 0, none⟩ = some (.slice p n c) := by rw [(bcell k1).1 _ _ (by first | (simp; done) | (simp; omega))]; simp [go_sem]
      have b1 : Below w.heap.size w w1 := below_after k1 (by (repeat (first | (with_reducible exact Below.refl _ _) | (with_reducible refine below_setCell ?_ (by first | (simp; done) | (simp; omega) | omega)) | (with_reducible refine below_alloc _ ?_) | (with_reducible refine below_drewN ?_ _) | (with_reducible assumption) | (with_reducible refine below_after (by assumption) ?_))))
      clear k1
      go_wp2_with fail
      refine (Hi.out _).mono ?_
      rintro e w2 ⟨rfl, rfl⟩
      go_wp2
      go_ret
      exact ⟨ret_bool (by rw [Hu.out]; rfl), b1⟩
    · have hr := inB_iff.1 hq
      obtain ⟨m, rfl⟩ : ∃ m : Nat, r = (m : Int) := ⟨r.toNat, by omega⟩
      have hml : m < l.length := by have := Hn.out; omega
      obtain ⟨g, o, rfl, hg, hc⟩ := R.out (by have := Hn.out; omega)
      have at0 := hc m hml
      have Hu : Hid (upIs l (m : Int) b = (l[m].Up == b)) := Lib.hid (upIs_nat hml b)
      have hmn : (m : Int) < (n : Int) := by omega
      have hm0 : (0 : Int) ≤ (m : Int) := by omega
      obtain ⟨y, es⟩ : ∃ y, l[m] = y := ⟨_, rfl⟩
      rw [es] at at0 Hu
      obtain ⟨d0, _⟩ := at_replica at0
      rw [show o + m * Cod.replica.size = o + m * 3 from rfl] at d0
      clear hc es hml at0 hq hr
      go_enter Try.func31, Try.ntmps31
      go_wp2_with fail
      refine (Hg.out _ (by (repeat (first | (with_reducible exact Below.refl _ _) | (with_reducible refine below_setCell ?_ (by first | (simp; done) | (simp; omega) | omega)) | (with_reducible refine below_alloc _ ?_) | (with_reducible refine below_drewN ?_ _) | (with_reducible assumption) | (with_reducible refine below_after (by assumption) ?_))))).mono ?_
      rintro e w1 ⟨rfl, k1⟩
      have c0 : w1.cell? ⟨w.heap.size, 0, none⟩ = some (.slice (some ⟨g, o, none⟩) n c) := by rw [(bcell k1).1 _ _ (by first | (simp; done) | (simp; omega))]; simp [go_sem]
      have b1 : Below w.heap.size w w1 := below_after k1 (by (repeat (first | (with_reducible exact Below.refl _ _) | (with_reducible refine below_setCell ?_ (by first | (simp; done) | (simp; omega) | omega)) | (with_reducible refine below_alloc _ ?_) | (with_reducible refine below_drewN ?_ _) | (with_reducible assumption) | (with_reducible refine below_after (by assumption) ?_))))
      replace d0 := cell_step b1 d0
      clear k1
      go_wp2_with fail
      refine (Hi.out _).mono ?_
      rintro e w2 ⟨rfl, rfl⟩
      go_wp2
      go_ret
      exact ⟨ret_bool (by rw [Hu.out]; rfl), b1⟩

end Go.Proofs.Ytfaefjdlfjhniaa


/- A group or none: what a move of a group gives. -/
namespace Go.Proofs.Ytfaefjdlfjhniaa
open Go.RowKit

def pickG : Bool → GroupD → GroupD
  | true, g => g
  | false, _ => ⟨[], 0, 0⟩

theorem own_freeR {w : World} {base g o n cap : Nat} {l : List ReplicaD} (h : Own Cod.replicaR w base (.slice (some ⟨g, o, none⟩) n cap) l) (hl : 0 < l.length) : base ≤ g ∧ ∀ i, w.frozen? ⟨g, i, none⟩ = false := by
  obtain ⟨fp, ⟨a, cap', e, h1, h2, h3, h4⟩, m⟩ := h
  injection e with e1 e2 e3
  subst e1 e2 e3
  rcases h4 with ⟨rfl, _⟩ | ⟨b', off, fs, e, rfl, hb, he⟩
  · simp at hl
  injection e with e
  injection e with e1 e2
  subst e1 e2
  exact ⟨m.low _ (by simp), fun i => m.free _ (by simp) i⟩

/-- What is where in a fresh row of replicas. -/
theorem own_atR {w : World} {base n : Nat} {p : Option Addr} {cap : Nat} {l : List ReplicaD} (h : Own Cod.replicaR w base (.slice p n cap) l) (k : Nat) (hk : k < l.length) :
    ∃ g o, p = some ⟨g, o, none⟩ ∧ base ≤ g ∧ g < w.heap.size ∧ w.frozen? ⟨g, o + k * 3, none⟩ = false ∧ w.cell? ⟨g, o + k * 3, none⟩ = some (.bool l[k].Up) := by
  obtain ⟨p', c', e, _, _, r⟩ := (own_weakR h).rd.form
  injection e with e1 e2 e3
  subst e1
  obtain ⟨g, o, rfl, hg, hc⟩ := r (by omega)
  obtain ⟨h1, h2⟩ := own_freeR h (by omega)
  obtain ⟨d0, _⟩ := at_replica (hc k hk)
  exact ⟨g, o, rfl, h1, hg, h2 _, d0⟩

def startL (l : List ReplicaD) (r : Int) : List ReplicaD := match l[r.toNat]? with
  | some x => l.set r.toNat { x with Up := true }
  | none => l
theorem startL_nat {l : List ReplicaD} {m : Nat} (h : m < l.length) : startL l (m : Int) = l.set m { l[m] with Up := true } := by
  unfold startL
  rw [Int.toNat_natCast, List.getElem?_eq_getElem h]

end Go.Proofs.Ytfaefjdlfjhniaa


/- Costs of groups that moves make. -/
namespace Go.Proofs.Ytfaefjdlfjhniaa
open Go.RowKit

theorem sumC_set {α : Type} (f : α → Nat) (l : List α) (k : Nat) (x : α) (h : ∀ hk : k < l.length, f x = f l[k]) : sumC f (l.set k x) = sumC f l := by
  induction l generalizing k with
  | nil => rfl
  | cons a l ih =>
    cases k with
    | zero => have := h (by simp); simp only [List.getElem_cons_zero] at this; simp [sumC, this]
    | succ k => have := ih k (fun hk => by have := h (by simpa using hk); simpa using this); simp [sumC] at this ⊢; exact this

theorem costR_set (l : List ReplicaD) (k : Nat) (x : ReplicaD) (h : ∀ hk : k < l.length, x.Log = l[k].Log) : costReplicaS (l.set k x) = costReplicaS l := by
  unfold costReplicaS
  rw [List.length_set, sumC_set costReplica l k x (fun hk => by unfold costReplica; rw [h hk])]

theorem startL_cost (l : List ReplicaD) (r : Int) : costReplicaS (startL l r) = costReplicaS l := by
  unfold startL
  split
  · rename_i x hx
    obtain ⟨hk, rfl⟩ := List.getElem?_eq_some_iff.1 hx
    exact costR_set l _ _ (fun _ => rfl)
  · rfl

theorem pick_costGroup (q : Bool) (g : GroupD) : costGroup (pickG q g) ≤ costGroup g := by
  cases q
  · show costReplicaS [] ≤ _
    unfold costReplicaS
    simp [sumC]
  · exact Nat.le_refl _

end Go.Proofs.Ytfaefjdlfjhniaa

