/- spec.l3Ver, walked. -/
import Derived.Test.YtccmnffehhaobaaAt1
namespace Go.Proofs.Ytccmnffehhaobaa
open Go.RowKit

theorem verAt_take (t : Int) (vs : List VerD) (j : Nat) (h : j < vs.length) : verAt t (vs.take (j + 1)) = if vs[j].Time ≤ t then some vs[j] else verAt t (vs.take j) := by
  unfold verAt
  rw [List.take_succ_eq_append_getElem h, List.reverse_append, List.reverse_cons, List.reverse_nil, List.nil_append, List.singleton_append, List.find?_cons]
  by_cases hx : vs[j].Time ≤ t
  · rw [decide_eq_true hx, if_pos hx]
  · rw [decide_eq_false hx, if_neg hx]

/-- Three cells that hold a version, none frozen. -/
def VerIn (W : World) (B : Nat) (v : VerD) : Prop := (W.cell? ⟨B, 0, none⟩ = some (.int .i64 v.Time) ∧ W.cell? ⟨B, 1, none⟩ = some (.string v.Val) ∧ W.cell? ⟨B, 2, none⟩ = some (.bool v.Gone)) ∧ W.frozen? ⟨B, 0, none⟩ = false ∧ W.frozen? ⟨B, 1, none⟩ = false ∧ W.frozen? ⟨B, 2, none⟩ = false
theorem VerIn.lt {W : World} {B : Nat} {v : VerD} (h : VerIn W B v) : B < W.heap.size := World.block_lt_of_cell? _ _ h.1.1
theorem VerIn.below {W W' : World} {B : Nat} {v : VerD} (h : VerIn W B v) (k : Below W.heap.size W W') : VerIn W' B v := by
  obtain ⟨⟨c0, c1, c2⟩, f0, f1, f2⟩ := h
  exact ⟨⟨cell_step k c0, cell_step k c1, cell_step k c2⟩, frozen_step k c0 f0, frozen_step k c1 f1, frozen_step k c2 f2⟩
theorem VerIn.far {W : World} {B : Nat} {v : VerD} (h : VerIn W B v) {p : Addr} {u : Value} (hp : p.block ≠ B) : VerIn (W.setCell p u) B v := by
  obtain ⟨⟨c0, c1, c2⟩, f0, f1, f2⟩ := h
  exact ⟨⟨cell_far c0 hp, cell_far c1 hp, cell_far c2 hp⟩, frozen_set f0, frozen_set f1, frozen_set f2⟩
theorem VerIn.set {W : World} {B : Nat} {v : VerD} (h : VerIn W B v) (x : VerD) : VerIn (((W.setCell ⟨B, 0, none⟩ (.int .i64 x.Time)).setCell ⟨B, 1, none⟩ (.string x.Val)).setCell ⟨B, 2, none⟩ (.bool x.Gone)) B x := by
  obtain ⟨⟨c0, c1, c2⟩, f0, f1, f2⟩ := h
  have n01 : (⟨B, 0, none⟩ : Addr) ≠ ⟨B, 1, none⟩ := by simp
  have n02 : (⟨B, 0, none⟩ : Addr) ≠ ⟨B, 2, none⟩ := by simp
  have n12 : (⟨B, 1, none⟩ : Addr) ≠ ⟨B, 2, none⟩ := by simp
  refine ⟨⟨?_, ?_, ?_⟩, frozen_set (frozen_set (frozen_set f0)), frozen_set (frozen_set (frozen_set f1)), frozen_set (frozen_set (frozen_set f2))⟩
  · exact (World.cell?_setCell_other _ _ _ _ (Ne.symm n02)).trans ((World.cell?_setCell_other _ _ _ _ (Ne.symm n01)).trans (World.cell?_setCell_same _ _ _ c0))
  · exact (World.cell?_setCell_other _ _ _ _ (Ne.symm n12)).trans (World.cell?_setCell_same _ _ _ ((World.cell?_setCell_other _ _ _ _ n01).trans c1))
  · exact World.cell?_setCell_same _ _ _ ((World.cell?_setCell_other _ _ _ _ n12).trans ((World.cell?_setCell_other _ _ _ _ n02).trans c2))

set_option maxRecDepth 100000 in
set_option maxHeartbeats 1600000 in
/-- spec.l3Ver -/
theorem l3Ver_any (x : CellD) (u : Value) (t : Int) (hlen : x.Vers.length ≤ 1048576) (w : World) (r : Rd Cod.ver w u x.Vers) :
    Calls Try.prog 152 #[.agg #[.string x.Key, u], .int .i64 t] w fun e w' => e = .returned (.tuple #[verV ((verAt t x.Vers).getD verZ), .bool (verAt t x.Vers).isSome]) ∧ Below w.heap.size w w' := by
  obtain ⟨p, c, rfl, _, _, rv⟩ := r.form
  have RV := Lib.hid rv
  clear rv r
  obtain ⟨key, vs⟩ := x
  dsimp only at *
  obtain ⟨m, hm⟩ : ∃ m : Nat, vs.length = m := ⟨_, rfl⟩
  have Hm := Lib.hid hm
  have hmI : (m : Int) ≤ 1048576 := by omega
  rw [hm]
  clear hm hlen
  go_enter Try.func152, Try.ntmps152
  go_wp2
  go_loopw [7, 13] (fun a i wr => ∃ j : Nat, i = .int .i64 (j : Int) ∧ j ≤ m ∧ a = .bool (verAt t (vs.take j)).isSome ∧ Hid (VerIn wr (w.heap.size + 1 + 1) ((verAt t (vs.take j)).getD verZ)) ∧ Hid (VerIn wr (w.heap.size + 1) verZ) ∧ Below w.heap.size w wr) (fun _ i _ => m - (intOf i).toNat)
  case atStart => exact ⟨0, rfl, Nat.zero_le _, rfl, Lib.hid ⟨⟨by simp [go_sem, verAt, verZ], by simp [go_sem, verAt, verZ], by simp [go_sem, verAt, verZ]⟩, by simp [go_sem], by simp [go_sem], by simp [go_sem]⟩, Lib.hid ⟨⟨by simp [go_sem, verZ], by simp [go_sem, verZ], by simp [go_sem, verZ]⟩, by simp [go_sem], by simp [go_sem], by simp [go_sem]⟩, by (repeat (first | (with_reducible exact Below.refl _ _) | (with_reducible refine below_setCell ?_ (by first | (simp; done) | (simp; omega) | omega)) | (with_reducible refine below_alloc _ ?_) | (with_reducible refine below_drewN ?_ _) | (with_reducible assumption) | (with_reducible refine below_after (by assumption) ?_)))⟩
  case round =>
    obtain ⟨j, rfl, hj, rfl, Ho, Hr, hb⟩ := hrel
    have hbs := hb.size
    by_cases hjt : j < m
    · have hjt2 : (j : Int) < (m : Int) := by omega
      have hjl : j < vs.length := by have := Hm.out; omega
      obtain ⟨gv, ov, rfl, hgv, hcv⟩ := RV.out (by omega)
      have at1 := (hcv j hjl).below hgv hb
      obtain ⟨e0, e1, e2, zt, zv⟩ := at_ver at1
      rw [show ov + j * Cod.ver.size = ov + j * 3 from rfl] at *
      have Hnx := Lib.hid (verAt_take t vs j hjl)
      obtain ⟨y, ey⟩ : ∃ y, vs[j] = y := ⟨_, rfl⟩
      rw [ey] at e0 e1 e2 zt zv Hnx
      clear at1 ey hjl hcv
      obtain ⟨yt, yv, yg⟩ := y
      simp only at e0 e1 e2 zt zv Hnx
      obtain ⟨zt1, zt2⟩ := zt
      have hb00 : gv < wr.heap.size := Nat.lt_of_lt_of_le hgv hb.size
      have hol := Ho.out.lt
      obtain ⟨⟨o0, o1, o2⟩, g0, g1, g2⟩ := Ho.out
      by_cases htm : yt ≤ t
      · have HN : Hid (verAt t (vs.take (j + 1)) = some ⟨yt, yv, yg⟩) := Lib.hid (by have := Hnx.out; rwa [if_pos htm] at this)
        have HE : Hid (VerIn ((((wr.setCell ⟨w.heap.size + 1 + 1, 0, none⟩ (.int .i64 yt)).setCell ⟨w.heap.size + 1 + 1, 1, none⟩ (.string yv)).setCell ⟨w.heap.size + 1 + 1, 2, none⟩ (.bool yg)).alloc (.cells #[.int .i64 yt, .string yv, .bool yg] 162)) (w.heap.size + 1 + 1) ⟨yt, yv, yg⟩ ∧ VerIn ((((wr.setCell ⟨w.heap.size + 1 + 1, 0, none⟩ (.int .i64 yt)).setCell ⟨w.heap.size + 1 + 1, 1, none⟩ (.string yv)).setCell ⟨w.heap.size + 1 + 1, 2, none⟩ (.bool yg)).alloc (.cells #[.int .i64 yt, .string yv, .bool yg] 162)) (w.heap.size + 1) verZ ∧ Below w.heap.size w ((((wr.setCell ⟨w.heap.size + 1 + 1, 0, none⟩ (.int .i64 yt)).setCell ⟨w.heap.size + 1 + 1, 1, none⟩ (.string yv)).setCell ⟨w.heap.size + 1 + 1, 2, none⟩ (.bool yg)).alloc (.cells #[.int .i64 yt, .string yv, .bool yg] 162))) := Lib.hid
          ⟨(Ho.out.set ⟨yt, yv, yg⟩).below (below_new _ _), (((Hr.out.far (p := ⟨w.heap.size + 1 + 1, 0, none⟩) (by simp only; omega)).far (p := ⟨w.heap.size + 1 + 1, 1, none⟩) (by simp only; omega)).far (p := ⟨w.heap.size + 1 + 1, 2, none⟩) (by simp only; omega)).below (below_new _ _),
            below_alloc _ (below_setCell (p := ⟨w.heap.size + 1 + 1, 2, none⟩) (below_setCell (p := ⟨w.heap.size + 1 + 1, 1, none⟩) (below_setCell (p := ⟨w.heap.size + 1 + 1, 0, none⟩) hb (by simp only; omega)) (by simp only; omega)) (by simp only; omega))⟩
        clear Hnx
        generalize verAt t (vs.take j) = q at *
        go_wp2
        go_roundw
        case rel => exact ⟨j + 1, by go_num, by omega, by rw [HN.out]; rfl, Lib.hid (by rw [HN.out]; exact HE.out.1), Lib.hid HE.out.2.1, HE.out.2.2⟩
        case measure => simp [intOf]; omega
      · have htm2 : t < yt := by omega
        have HN : Hid (verAt t (vs.take (j + 1)) = verAt t (vs.take j)) := Lib.hid (by have := Hnx.out; rwa [if_neg htm] at this)
        clear Hnx
        go_wp2
        go_roundw
        case rel => exact ⟨j + 1, by go_num, by omega, by rw [HN.out], Lib.hid (by rw [HN.out]; exact Ho.out.below (below_new _ _)), Lib.hid (Hr.out.below (below_new _ _)), below_alloc _ hb⟩
        case measure => simp [intOf]; omega
    · have hjt2 : (m : Int) ≤ (j : Int) := by omega
      obtain rfl : j = m := by omega
      have Ht : Hid (vs.take j = vs) := Lib.hid (List.take_of_length_le (by have := Hm.out; omega))
      rw [Ht.out] at Ho ⊢
      obtain ⟨⟨o0, o1, o2⟩, g0, g1, g2⟩ := Ho.out
      obtain ⟨⟨r0, r1, r2⟩, q0, q1, q2⟩ := Hr.out
      have hol := Ho.out.lt
      have hrl := Hr.out.lt
      clear Ht
      obtain ⟨z, hz⟩ : ∃ z, (verAt t vs).getD verZ = z := ⟨_, rfl⟩
      obtain ⟨zb, hzb⟩ : ∃ zb, (verAt t vs).isSome = zb := ⟨_, rfl⟩
      rw [hz] at Ho o0 o1 o2
      rw [hzb]
      have Hz := Lib.hid hz
      have Hzb := Lib.hid hzb
      clear hz hzb
      have HV : Hid (VerIn (((wr.setCell ⟨w.heap.size + 1, 0, none⟩ (.int .i64 z.Time)).setCell ⟨w.heap.size + 1, 1, none⟩ (.string z.Val)).setCell ⟨w.heap.size + 1, 2, none⟩ (.bool z.Gone)) (w.heap.size + 1) z ∧ Below w.heap.size w (((wr.setCell ⟨w.heap.size + 1, 0, none⟩ (.int .i64 z.Time)).setCell ⟨w.heap.size + 1, 1, none⟩ (.string z.Val)).setCell ⟨w.heap.size + 1, 2, none⟩ (.bool z.Gone))) :=
        Lib.hid ⟨Hr.out.set z, below_setCell (below_setCell (below_setCell hb (by simp only; omega)) (by simp only; omega)) (by simp only; omega)⟩
      go_wp2
      have HW := HV.out
      clear HV Ho Hr
      generalize (((wr.setCell ⟨w.heap.size + 1, 0, none⟩ (.int .i64 z.Time)).setCell ⟨w.heap.size + 1, 1, none⟩ (.string z.Val)).setCell ⟨w.heap.size + 1, 2, none⟩ (.bool z.Gone)) = W2 at *
      obtain ⟨⟨⟨s0, s1, s2⟩, _⟩, hB2⟩ := HW
      obtain ⟨zt, zv, zg⟩ := z
      exact bodyPost_ret (v := .tuple #[.agg #[.int .i64 zt, .string zv, .bool zg], .bool zb]) (by simp [results, Try.results152, go_sem, s0, s1, s2]) rfl ⟨by rw [Hz.out, Hzb.out]; rfl, hB2⟩

end Go.Proofs.Ytccmnffehhaobaa
