/- spec.l9OwnLog. -/
import Derived.Test.YtogdbjalgledpaaTrim1
import Derived.Test.YtogdbjalgledpaaRoom
import Derived.Test.YtogdbjalgledpaaData2
import Derived.Test.YtogdbjalgledpaaRow3
import Derived.Test.YtogdbjalgledpaaTos
namespace Go.Proofs.Ytogdbjalgledpaa
open Go.RowKit

theorem Try_infoO_str : (Try.prog.info? 9).map (fun i => (i.zero, i.size, i.bytes)) = some (some (.string ⟨#[]⟩), 1, 16) := by kernel_rfl
theorem Try_infoO_write : (Try.prog.info? 112).map (fun i => (i.zero, i.size, i.bytes)) = some (some (.agg #[.string ⟨#[]⟩, .string ⟨#[]⟩, .bool false]), 3, 40) := by kernel_rfl

set_option maxRecDepth 100000 in
set_option maxHeartbeats 3200000 in
/-- spec.l9OwnLog -/
theorem l9OwnLog_r (v : Value) (l : List EntryD) (hl : costEntryS l ≤ 1048576) (w : World) (h : Rd Cod.entry w v l) :
    Calls Try.prog 57 #[v] w fun e w' => ∃ v', e = .returned v' ∧ OwnR Cod.entry w' w.heap.size v' l ∧ Below w.heap.size w w' := by
  obtain ⟨i0, hi, hv0, hv1, hv2⟩ := info_parts Try_info_entry
  obtain ⟨i1, hi1, hy0, hy1, hy2⟩ := info_parts Try_infoO_str
  obtain ⟨i2, hi2, hx0, hx1, hx2⟩ := info_parts Try_infoO_write
  obtain ⟨p, c, rfl, hlc, hcm, r⟩ := h.form
  have R := Lib.hid r
  clear r h hlc hcm
  have Hc := Lib.hid hl
  obtain ⟨n, hn⟩ : ∃ n : Nat, l.length = n := ⟨_, rfl⟩
  have Hn := Lib.hid hn
  have hnb : (n : Int) ≤ 1048576 := by unfold costEntryS at hl; omega
  rw [hn]
  clear hn hl
  go_enter Try.func57, Try.ntmps57
  go_wp2
  go_loopw [3, 4] (fun a i wr => ∃ k : Nat, i = .int .i64 (k : Int) ∧ k ≤ n ∧ Hid (∃ p c, a = .slice p k c) ∧ Hid (Part Cod.entry wr w.heap.size 81 a k (l.take k)) ∧ Below w.heap.size w wr) (fun _ i _ => n - (intOf i).toNat)
  case atStart => exact ⟨0, rfl, Nat.zero_le _, Lib.hid ⟨_, _, rfl⟩, Lib.hid ⟨_, part_start (World.ownsRow_made _ _ _ (Nat.le_refl _) (by simp) rfl)⟩, below_new _ _⟩
  case round =>
    obtain ⟨k, rfl, hk, ⟨pa, ca, rfl⟩, Hp, hb⟩ := hrel
    have hbs := hb.size
    by_cases hlt : k < n
    · have hlt2 : (k : Int) < (n : Int) := by omega
      have hkl : k < l.length := by have := Hn.out; omega
      have hktl : (l.take k).length = k := by rw [List.length_take]; omega
      obtain ⟨g, o, rfl, hg, hc⟩ := R.out (by have := Hn.out; omega)
      have at0 := (hc k hkl).below hg hb
      have Ht := Lib.hid (List.take_succ_eq_append_getElem hkl)
      have hcst := sumC_get costEntry l k hkl
      obtain ⟨x, es⟩ : ∃ x, l[k] = x := ⟨_, rfl⟩
      rw [es] at at0 Ht hcst
      have Hl : Hid (costEntry x ≤ 1048576) := Lib.hid (by have := Hc.out; unfold costEntryS at this; omega)
      clear hc es hkl hcst
      obtain ⟨d0, d1, d2, d3, d4, ⟨uR, d5, rR⟩, ⟨uW, d6, rW⟩, d7, zTerm, zRecKind, zRecTxn, zRecTime, zRecLead⟩ := at_entry at0
      rw [show o + k * Cod.entry.size = o + k * 8 from rfl] at *
      clear at0
      obtain ⟨pr, cr, rfl, -⟩ := rR.form
      obtain ⟨pw, cw, rfl, -⟩ := rW.form
      have Hb1 : Hid ((0 + x.Rec.Reads.length) * 16 ≤ room) := Lib.hid (by have := Hl.out; unfold costEntry costStringS at this; unfold room; omega)
      have Hb2 : Hid ((0 + x.Rec.Writes.length) * 40 ≤ room) := Lib.hid (by have := Hl.out; unfold costEntry costWriteS at this; unfold room; omega)
      have Hroom : Hid ((k + 1) * 96 ≤ room) := Lib.hid (by unfold room; omega)
      have HR : Hid (∀ u, Below wr.heap.size wr u → Rd Cod.str u (.slice pr x.Rec.Reads.length cr) x.Rec.Reads) := Lib.hid fun u b => rR.below b
      have HW : Hid (∀ u, Below wr.heap.size wr u → Rd Cod.write u (.slice pw x.Rec.Writes.length cw) x.Rec.Writes) := Lib.hid fun u b => rW.below b
      obtain ⟨cells, Pc⟩ := Hp.out
      have Pc := Lib.hid Pc
      have Hktl := Lib.hid hktl
      have Hx := Lib.hid (fun (W : World) (uR : Value) (fR : List Nat) (rR : Cod.rdS Cod.str W uR x.Rec.Reads fR) (uW : Value) (fW : List Nat) (rW : Cod.rdS Cod.write W uW x.Rec.Writes fW) => mk_entry (w := W) (g := lst [.int .i64 x.Term, .int .i64 x.Rec.Kind, .int .i64 x.Rec.Txn, .int .i64 x.Rec.Time, .int .i64 x.Rec.Lead, uR, uW, .bool x.Rec.Yes]) (x := x) rfl zTerm rfl zRecKind rfl zRecTxn rfl zRecTime rfl zRecLead rfl rR rfl rW rfl)
      clear Hp rR rW hktl Hl
      obtain ⟨xt, ⟨xa, xb, xc, xd, xr, xw, xy⟩⟩ := x
      dsimp only at *
      generalize hlr : xr.length = lr at *
      generalize hlw : xw.length = lw at *
      have Hlr := Lib.hid hlr
      have Hlw := Lib.hid hlw
      clear hlr hlw
      go_wp2_with (at_builtin; go_must (refine wpList_append_flat (c := Cod.str) flat_str _ rfl _ _ 37 (by rfl) (wr.heap.size + 1) 9 i1 (.string ⟨#[]⟩) 16 Try.underlying37 hi1 hy0 hy1 hy2 rfl (by decide) (by decide) _ (.slice (some ⟨wr.heap.size + 1, 0, none⟩) 0 0) 0 [] [] (by rfl) (part_start (made0 (by simp) (Nat.le_refl _))) rfl (Below.refl _ _) (.slice pr lr cr) xr (by rfl) (HR.out _ (by (repeat (first | (with_reducible exact Below.refl _ _) | (with_reducible refine below_setCell ?_ (by first | (simp; done) | (simp; omega) | omega)) | (with_reducible refine below_alloc _ ?_) | (with_reducible refine below_drewN ?_ _) | (with_reducible assumption) | (with_reducible refine below_after (by assumption) ?_))))) (by rw [Hlr.out]; exact Hb1.out) (by simp) ?_))
      intro p' c' w2 cells' hP hb2
      have hP := hP.own (by simp)
      try simp only [Nat.zero_add, List.nil_append] at hP
      try simp only [Nat.zero_add]
      have b0 : w2.cell? ⟨wr.heap.size, 0, none⟩ = some (.int .i64 xt) := cell_from hb2 (Nat.lt_succ_self _) (by simp [go_sem])
      have bf0 : w2.frozen? ⟨wr.heap.size, 0, none⟩ = false := free_from hb2 (Nat.lt_succ_self _) (by simp [go_sem])
      have b1 : w2.cell? ⟨wr.heap.size, 1, none⟩ = some (.int .i64 xa) := cell_from hb2 (Nat.lt_succ_self _) (by simp [go_sem])
      have bf1 : w2.frozen? ⟨wr.heap.size, 1, none⟩ = false := free_from hb2 (Nat.lt_succ_self _) (by simp [go_sem])
      have b2 : w2.cell? ⟨wr.heap.size, 2, none⟩ = some (.int .i64 xb) := cell_from hb2 (Nat.lt_succ_self _) (by simp [go_sem])
      have bf2 : w2.frozen? ⟨wr.heap.size, 2, none⟩ = false := free_from hb2 (Nat.lt_succ_self _) (by simp [go_sem])
      have b3 : w2.cell? ⟨wr.heap.size, 3, none⟩ = some (.int .i64 xc) := cell_from hb2 (Nat.lt_succ_self _) (by simp [go_sem])
      have bf3 : w2.frozen? ⟨wr.heap.size, 3, none⟩ = false := free_from hb2 (Nat.lt_succ_self _) (by simp [go_sem])
      have b4 : w2.cell? ⟨wr.heap.size, 4, none⟩ = some (.int .i64 xd) := cell_from hb2 (Nat.lt_succ_self _) (by simp [go_sem])
      have bf4 : w2.frozen? ⟨wr.heap.size, 4, none⟩ = false := free_from hb2 (Nat.lt_succ_self _) (by simp [go_sem])
      have b5 : w2.cell? ⟨wr.heap.size, 5, none⟩ = some (.slice pr lr cr) := cell_from hb2 (Nat.lt_succ_self _) (by simp [go_sem])
      have bf5 : w2.frozen? ⟨wr.heap.size, 5, none⟩ = false := free_from hb2 (Nat.lt_succ_self _) (by simp [go_sem])
      have b6 : w2.cell? ⟨wr.heap.size, 6, none⟩ = some (.slice pw lw cw) := cell_from hb2 (Nat.lt_succ_self _) (by simp [go_sem])
      have bf6 : w2.frozen? ⟨wr.heap.size, 6, none⟩ = false := free_from hb2 (Nat.lt_succ_self _) (by simp [go_sem])
      have b7 : w2.cell? ⟨wr.heap.size, 7, none⟩ = some (.bool xy) := cell_from hb2 (Nat.lt_succ_self _) (by simp [go_sem])
      have bf7 : w2.frozen? ⟨wr.heap.size, 7, none⟩ = false := free_from hb2 (Nat.lt_succ_self _) (by simp [go_sem])
      have kb2 : Below wr.heap.size wr w2 := (below_alloc _ (below_new _ _)).trans (hb2.mono (Nat.le_succ _))
      have hz2 : wr.heap.size + 1 < w2.heap.size := by have := hb2.size; simp at this; omega
      have hz20 : wr.heap.size < w2.heap.size := by omega
      have Ho1 := Lib.hid hP
      clear hP hb2
      go_wp2_with (at_builtin; go_must (refine wpList_append_flat (c := Cod.write) flat_write _ rfl _ _ 43 (by rfl) w2.heap.size 112 i2 (.agg #[.string ⟨#[]⟩, .string ⟨#[]⟩, .bool false]) 40 Try.underlying43 hi2 hx0 hx1 hx2 rfl (by decide) (by decide) _ (.slice (some ⟨w2.heap.size, 0, none⟩) 0 0) 0 [] [] (by rfl) (part_start (made0 (by simp) (Nat.le_refl _))) rfl (Below.refl _ _) (.slice pw lw cw) xw (by rfl) (HW.out _ (by (repeat (first | (with_reducible exact Below.refl _ _) | (with_reducible refine below_setCell ?_ (by first | (simp; done) | (simp; omega) | omega)) | (with_reducible refine below_alloc _ ?_) | (with_reducible refine below_drewN ?_ _) | (with_reducible assumption) | (with_reducible refine below_after (by assumption) ?_))))) (by rw [Hlw.out]; exact Hb2.out) (by simp) ?_))
      intro p'' c'' w3 cells'' hP hb3
      have hP := hP.own (by simp)
      try simp only [Nat.zero_add, List.nil_append] at hP
      try simp only [Nat.zero_add]
      have e0 : w3.cell? ⟨wr.heap.size, 0, none⟩ = some (.int .i64 xt) := cell_from hb3 (by omega) ((cell_alloc_old (by simp; omega)).trans (by simp [go_sem, b0]))
      have ef0 : w3.frozen? ⟨wr.heap.size, 0, none⟩ = false := free_from hb3 (by omega) ((frozen_alloc_old (by simp; omega)).trans (by simp [go_sem, bf0]))
      have e1 : w3.cell? ⟨wr.heap.size, 1, none⟩ = some (.int .i64 xa) := cell_from hb3 (by omega) ((cell_alloc_old (by simp; omega)).trans (by simp [go_sem, b1]))
      have ef1 : w3.frozen? ⟨wr.heap.size, 1, none⟩ = false := free_from hb3 (by omega) ((frozen_alloc_old (by simp; omega)).trans (by simp [go_sem, bf1]))
      have e2 : w3.cell? ⟨wr.heap.size, 2, none⟩ = some (.int .i64 xb) := cell_from hb3 (by omega) ((cell_alloc_old (by simp; omega)).trans (by simp [go_sem, b2]))
      have ef2 : w3.frozen? ⟨wr.heap.size, 2, none⟩ = false := free_from hb3 (by omega) ((frozen_alloc_old (by simp; omega)).trans (by simp [go_sem, bf2]))
      have e3 : w3.cell? ⟨wr.heap.size, 3, none⟩ = some (.int .i64 xc) := cell_from hb3 (by omega) ((cell_alloc_old (by simp; omega)).trans (by simp [go_sem, b3]))
      have ef3 : w3.frozen? ⟨wr.heap.size, 3, none⟩ = false := free_from hb3 (by omega) ((frozen_alloc_old (by simp; omega)).trans (by simp [go_sem, bf3]))
      have e4 : w3.cell? ⟨wr.heap.size, 4, none⟩ = some (.int .i64 xd) := cell_from hb3 (by omega) ((cell_alloc_old (by simp; omega)).trans (by simp [go_sem, b4]))
      have ef4 : w3.frozen? ⟨wr.heap.size, 4, none⟩ = false := free_from hb3 (by omega) ((frozen_alloc_old (by simp; omega)).trans (by simp [go_sem, bf4]))
      have e5 : w3.cell? ⟨wr.heap.size, 5, none⟩ = some (.slice p' xr.length c') := cell_from hb3 (by omega) ((cell_alloc_old (by simp; omega)).trans (by simp [go_sem, b5]))
      have ef5 : w3.frozen? ⟨wr.heap.size, 5, none⟩ = false := free_from hb3 (by omega) ((frozen_alloc_old (by simp; omega)).trans (by simp [go_sem, bf5]))
      have e6 : w3.cell? ⟨wr.heap.size, 6, none⟩ = some (.slice pw lw cw) := cell_from hb3 (by omega) ((cell_alloc_old (by simp; omega)).trans (by simp [go_sem, b6]))
      have ef6 : w3.frozen? ⟨wr.heap.size, 6, none⟩ = false := free_from hb3 (by omega) ((frozen_alloc_old (by simp; omega)).trans (by simp [go_sem, bf6]))
      have e7 : w3.cell? ⟨wr.heap.size, 7, none⟩ = some (.bool xy) := cell_from hb3 (by omega) ((cell_alloc_old (by simp; omega)).trans (by simp [go_sem, b7]))
      have ef7 : w3.frozen? ⟨wr.heap.size, 7, none⟩ = false := free_from hb3 (by omega) ((frozen_alloc_old (by simp; omega)).trans (by simp [go_sem, bf7]))
      have hz3 : w2.heap.size < w3.heap.size := by have := hb3.size; simp at this; omega
      have hz30 : wr.heap.size < w3.heap.size := by omega
      have kb3 : Below wr.heap.size wr w3 := (below_alloc _ (below_setCell kb2 (Nat.le_refl _))).trans (hb3.mono (by omega))
      have kk : Keep (wr.heap.size + 1) w2 w3 := keep_cut (by (repeat (first | (with_reducible exact Keep.refl _ _) | (with_reducible refine keep_set ?_ (by first | (simp; done) | (simp; omega) | omega)) | (with_reducible refine keep_alloc _ ?_) | (with_reducible refine keep_drewN ?_ _) | (with_reducible assumption) | (with_reducible refine keep_below (by assumption) ?_)))) hb3
      have kp : Below wr.heap.size wr (w3.setCell ⟨wr.heap.size, 6, none⟩ (.slice p'' xw.length c'')) := below_setCell kb3 (Nat.le_refl _)
      obtain ⟨f1, s1, m1⟩ := Ho1.out
      obtain ⟨f2, s2, m2⟩ := hP
      have q1 : Keep (wr.heap.size + 1) w2 (w3.setCell ⟨wr.heap.size, 6, none⟩ (.slice p'' xw.length c'')) := keep_set kk (Nat.lt_succ_self _)
      have q2 : Keep (wr.heap.size + 1) w3 (w3.setCell ⟨wr.heap.size, 6, none⟩ (.slice p'' xw.length c'')) := keep_set (Keep.refl _ _) (Nat.lt_succ_self _)
      have HX := Lib.hid (Hx.out _ _ f1 (rdS_keep s1 m1 (B := wr.heap.size + 1) (Nat.le_refl _) q1) _ f2 (rdS_keep s2 m2 (B := wr.heap.size + 1) (by omega) q2))
      have HM := Lib.hid (((m1.keep (B := wr.heap.size + 1) (Nat.le_refl _) (Cod.rdS_old _ s1) q1).mono (base' := wr.heap.size) (by omega)).app (((m2.keep (B := wr.heap.size + 1) (by omega) (Cod.rdS_old _ s2) q2).mono (base' := wr.heap.size) (by omega)).app (Mine.nil _ _) (fun _ _ h => by cases h)) (fun b h1 h2 => by
        have := Cod.rdS_old _ s1 b h1
        have := m2.low b (by simpa using h2)
        omega))
      clear Ho1 s1 m1 s2 m2 q1 q2 kk hb3 HR HW Hx b0 bf0 b1 bf1 b2 bf2 b3 bf3 b4 bf4 b5 bf5 b6 bf6 b7 bf7
      go_wp2_with (at_builtin; go_must (refine wpList_append_part (c := Cod.entry) (w3.setCell ⟨wr.heap.size, 6, none⟩ (.slice p'' xw.length c'')) rfl _ _ 56 (by rfl) w.heap.size 81 81 i0 (.agg #[.int .i64 0, .int .i64 0, .int .i64 0, .int .i64 0, .int .i64 0, .slice none 0 0, .slice none 0 0, .bool false]) 96 Try.underlying56 hi hv0 hv1 hv2 rfl (by decide) (by decide) wr _ k (l.take k) cells (by rfl) Pc.out Hktl.out kp ⟨xt, ⟨xa, xb, xc, xd, xr, xw, xy⟩⟩ (f1 ++ (f2 ++ [])) [.int .i64 xt, .int .i64 xa, .int .i64 xb, .int .i64 xc, .int .i64 xd, .slice p' xr.length c', .slice p'' xw.length c'', .bool xy] rfl HX.out HM.out w3.heap.size (by simp) (by rfl) (by simp [Value.oneCell']) Hroom.out hbs ?_))
      intro g' cap' w4 hp4 hb4
      have Hp4 := Lib.hid hp4
      have hbw4 : Below w.heap.size w w4 := (below_after kp hb).trans hb4
      clear hp4 hb4
      go_wp2
      go_roundw
      case rel => exact ⟨k + 1, by go_num, by omega, Lib.hid ⟨_, _, rfl⟩, Lib.hid (by rw [Ht.out]; exact Hp4.out), hbw4⟩
      case measure => simp [intOf]; omega
    · have hlt2 : (n : Int) ≤ (k : Int) := by omega
      obtain rfl : k = n := by omega
      go_wp2
      go_ret
      have hf : l.take k = l := List.take_of_length_le (by have := Hn.out; omega)
      have h3 := Hp.out
      rw [hf] at h3
      exact ⟨_, rfl, h3.ownR Hn.out, hb⟩

/-- spec.l9OwnLog -/
theorem l9OwnLog_any (v : Value) (l : List EntryD) (hl : costEntryS l ≤ 1048576) (w : World) (h : Rd Cod.entry w v l) :
    Calls Try.prog 57 #[v] w fun e w' => ∃ v', e = .returned v' ∧ Own Cod.entry w' w.heap.size v' l ∧ Below w.heap.size w w' :=
  (l9OwnLog_r v l hl w h).mono fun _ _ ⟨v', he, o, b⟩ => ⟨v', he, o.own, b⟩

end Go.Proofs.Ytogdbjalgledpaa
