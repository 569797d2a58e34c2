/- impl.trimCells, walked. -/
import Derived.Test.YtccmnffehhaobaaTrim1
import Derived.Test.YtccmnffehhaobaaCloneVer
import Derived.Test.YtccmnffehhaobaaStep
import Derived.Deep.RegionWith
import Derived.Deep.DeepCutAuto
import Derived.Deep.RegionLaw
namespace Go.Proofs.Ytccmnffehhaobaa
open Go.RowKit

theorem lastF_drop (fl : Int) (vs : List VerD) (j f : Nat) (h : j < vs.length) : lastF fl (vs.drop j) j f = lastF fl (vs.drop (j + 1)) (j + 1) (if vs[j].Time ≤ fl then j else f) := by
  rw [List.drop_eq_getElem_cons h]
  rfl

/-- The end of a slice. -/
theorem Rd.drop {α : Type} {c : Cod α} {w : World} {g o n cap : Nat} {xs : List α} (h : Rd c w (.slice (some ⟨g, o, none⟩) n cap) xs) (k : Nat) (hk : k < n) : Rd c w (.slice (some ⟨g, o + k * c.size, none⟩) (n - k) (cap - k)) (xs.drop k) := by
  obtain ⟨fp, a, cp, hv, h1, h2, h3, h4⟩ := h
  injection hv with ha hn hc
  subst ha hn hc
  rcases h4 with ⟨rfl, _⟩ | ⟨b, off, fs, hab, rfl, hb, he⟩
  · simp at hk
  injection hab with hab
  injection hab with hbb hoo
  subst hbb hoo
  have hl := Cod.elems_length c he
  refine ⟨g :: (fs.drop k).flatten, some ⟨g, o + k * c.size, none⟩, cap - k, by rw [List.length_drop], by rw [List.length_drop]; omega, by omega, (fun h => by cases h), Or.inr ⟨g, o + k * c.size, fs.drop k, rfl, rfl, hb, Cod.elems_of c (by rw [List.length_drop, List.length_drop, hl]) fun j hj f hf => ?_⟩⟩
  rw [List.getElem?_drop] at hf
  obtain ⟨f', hf', hr⟩ := Cod.elems_at c he (k + j) (by rw [List.length_drop] at hj; omega)
  rw [hf] at hf'
  obtain rfl := Option.some.inj hf'
  rw [List.getElem_drop]
  have e : o + k * c.size + j * c.size = o + (k + j) * c.size := by rw [Nat.add_mul]; omega
  rw [e]
  exact hr

set_option maxRecDepth 100000 in
set_option maxHeartbeats 3200000 in
/-- impl.trimCells -/
theorem trimCells_any (v : Value) (l : List CellD) (fl : Int) (hf : I64 fl) (hl : costCellS l ≤ 1048576) (hgc : GoodC l) (w : World) (h : Rd Cod.cell w v l) :
    Calls Try.prog 81 #[v, .int .i64 fl] w fun e w' => ∃ v', e = .returned v' ∧ Own Cod.cell w' w.heap.size v' (trimL fl l) ∧ Below w.heap.size w w' := by
  obtain ⟨i1, hi1, hy0, hy1, hy2⟩ := info_parts Try_infoT_cell
  obtain ⟨p, c, rfl, _, _, r⟩ := h.form
  have R := Lib.hid r
  have Hl := Lib.hid hl
  have Hgc := Lib.hid hgc
  clear r h hgc
  obtain ⟨n, hn⟩ : ∃ n : Nat, l.length = n := ⟨_, rfl⟩
  have Hn := Lib.hid hn
  have hnb : (n : Int) ≤ 1048576 := by unfold costCellS at hl; omega
  obtain ⟨hf1, hf2⟩ := hf
  rw [hn]
  clear hn hl
  go_enter Try.func81, Try.ntmps81
  go_wp2
  go_loopw [5, 15] (fun a i wr => ∃ k : Nat, i = .int .i64 (k : Int) ∧ k ≤ n ∧ Hid (Grow Cod.cell wr w.heap.size 100 a (trimL fl (l.take k))) ∧ Below w.heap.size w wr) (fun _ i _ => n - (intOf i).toNat)
  case atStart => exact ⟨0, rfl, Nat.zero_le _, Lib.hid ⟨_, part_start (World.ownsRow_made _ _ _ (Nat.le_refl _) (by simp) rfl)⟩, below_new _ _⟩
  case round =>
    obtain ⟨k, rfl, hk, Hp, hb⟩ := hrel
    have hbs := hb.size
    by_cases hlt : k < n
    · have hlt2 : (k : Int) < (n : Int) := by omega
      have hkl : k < l.length := by have := Hn.out; omega
      obtain ⟨g, o, rfl, hg, hc⟩ := R.out (by have := Hn.out; omega)
      have at0 := (hc k hkl).below hg hb
      have hvl := vers_le Hl.out hkl
      have hgv := Hgc.out.2.1 k hkl hkl
      have Ht := Lib.hid (trimL_take fl l k hkl)
      have Hlen := Lib.hid (trimL_cost fl (l.take k)).2
      obtain ⟨x, es⟩ : ∃ x, l[k] = x := ⟨_, rfl⟩
      rw [es] at at0 Ht hvl hgv
      have Hk := Lib.hid (keepV_first (fl := fl) (riseV_of hgv) (by have := (inB_iff.1 hgv.1).1; omega))
      obtain ⟨d0, ⟨u, d1, ru⟩, z0⟩ := at_cell at0
      obtain ⟨pu, cu, rfl, hcu, _, rv⟩ := ru.form
      rw [show o + k * Cod.cell.size = o + k * 2 from rfl] at *
      clear hc es hkl at0 hgv
      obtain ⟨m, hm⟩ : ∃ m : Nat, x.Vers.length = m := ⟨_, rfl⟩
      have Hm := Lib.hid hm
      have hmI : (m : Int) ≤ 1048576 := by omega
      have hm0 : 0 < m := by obtain ⟨f, hf, _⟩ := Hk.out; omega
      have RV := Lib.hid rv
      clear rv
      rw [hm] at d1 hvl ru hcu
      have RU := Lib.hid ru
      clear hm ru
      obtain ⟨gv, ov, rfl, hgv, hcv0⟩ := RV.out (by have := Hm.out; omega)
      have HC := Lib.hid hcv0
      clear hcv0 RV
      obtain ⟨pa, ca, rfl⟩ := Hp.out.form
      generalize hoL : (trimL fl (l.take k)).length = oL at *
      have HoL := Lib.hid hoL
      clear hoL
      have hoLk : oL ≤ k := by have := HoL.out; have := Hlen.out; rw [List.length_take] at this; omega
      clear Hlen
      obtain ⟨cells, Pc⟩ := Hp.out
      rw [HoL.out] at Pc
      have Pc := Lib.hid Pc
      clear Hp
      obtain ⟨w1, rfl⟩ : ∃ w1, w1 = wr := ⟨_, rfl⟩
      go_wp2
      go_loopw [8, 22] (fun a i wr => ∃ (j f : Nat), i = .int .i64 (j : Int) ∧ a = .int .i64 (f : Int) ∧ j ≤ m ∧ f < m ∧ Hid (lastF fl (x.Vers.drop j) j f = lastF fl x.Vers 0 0) ∧ Below w1.heap.size w1 wr ∧ w1.heap.size < wr.heap.size ∧
        wr.cell? ⟨w1.heap.size, 0, none⟩ = some (.string x.Key) ∧ wr.cell? ⟨w1.heap.size, 1, none⟩ = some (.slice (some ⟨gv, ov, none⟩) m cu)) (fun _ i _ => m - (intOf i).toNat)
      case atStart => exact ⟨0, 0, rfl, rfl, Nat.zero_le _, hm0, Lib.hid rfl, below_new _ _, by simp, by simp [go_sem], by simp [go_sem]⟩
      case round =>
        obtain ⟨j, f, rfl, rfl, hj, hfm, Hlast, hbi, hsz, c0, c1⟩ := hrel
        by_cases hjt : j < m
        · have hjt2 : (j : Int) < (m : Int) := by omega
          have hjl : j < x.Vers.length := by have := Hm.out; omega
          have at1 := (HC.out j hjl).below hgv hbi
          obtain ⟨e0, e1, e2, zt, zv⟩ := at_ver at1
          rw [show ov + j * Cod.ver.size = ov + j * 3 from rfl] at *
          have Hkd := Lib.hid (lastF_drop fl x.Vers j f hjl)
          obtain ⟨y, ey⟩ : ∃ y, x.Vers[j] = y := ⟨_, rfl⟩
          rw [ey] at e0 e1 e2 zt zv Hkd
          clear at1 ey hjl
          obtain ⟨yt, yv, yg⟩ := y
          simp only at e0 e1 e2 zt zv Hkd
          obtain ⟨zt1, zt2⟩ := zt
          have hb00 : gv < wr.heap.size := Nat.lt_of_lt_of_le hgv hbi.size
          have Hend : Hid (∀ W, Below wr.heap.size wr W → Below w1.heap.size w1 W ∧ w1.heap.size < W.heap.size ∧ W.cell? ⟨w1.heap.size, 0, none⟩ = some (.string x.Key) ∧ W.cell? ⟨w1.heap.size, 1, none⟩ = some (.slice (some ⟨gv, ov, none⟩) m cu)) :=
            Lib.hid fun W k => ⟨below_after k hbi, Nat.lt_of_lt_of_le hsz k.size, cell_step k c0, cell_step k c1⟩
          by_cases htm : yt ≤ fl
          · have HN : Hid (lastF fl (x.Vers.drop (j + 1)) (j + 1) j = lastF fl x.Vers 0 0) := Lib.hid (by have := Hkd.out; rw [if_pos htm] at this; rw [← this]; exact Hlast.out)
            clear Hkd Hlast
            go_wp2
            go_roundw
            case rel => exact ⟨j + 1, j, by go_num, by go_num, by omega, by omega, HN, Hend.out _ (below_new _ _)⟩
            case measure => simp [intOf]; omega
          · have htm2 : fl < yt := by omega
            have HN : Hid (lastF fl (x.Vers.drop (j + 1)) (j + 1) f = lastF fl x.Vers 0 0) := Lib.hid (by have := Hkd.out; rw [if_neg htm] at this; rw [← this]; exact Hlast.out)
            clear Hkd Hlast
            go_wp2
            go_roundw
            case rel => exact ⟨j + 1, f, by go_num, by go_num, by omega, by omega, HN, Hend.out _ (below_new _ _)⟩
            case measure => simp [intOf]; omega
        · have hjt2 : (m : Int) ≤ (j : Int) := by omega
          obtain rfl : j = m := by omega
          have hfmI : (f : Int) < (j : Int) := by omega
          have hfl : f < x.Vers.length := by have := Hm.out; omega
          have HK : Hid (keepV fl x.Vers = if x.Vers[f].Time ≤ fl ∧ x.Vers[f].Gone = true then x.Vers.drop (f + 1) else x.Vers.drop f) := Lib.hid (by
            obtain ⟨F, hF, e1, e2⟩ := Hk.out
            have := Hlast.out
            rw [List.drop_of_length_le (by have := Hm.out; omega), show lastF fl ([] : List VerD) j f = f from rfl, e1] at this
            subst this
            exact e2)
          have at1 := (HC.out f hfl).below hgv hbi
          obtain ⟨e0, e1, e2, zt, zv⟩ := at_ver at1
          rw [show ov + f * Cod.ver.size = ov + f * 3 from rfl] at *
          obtain ⟨y, ey⟩ : ∃ y, x.Vers[f] = y := ⟨_, rfl⟩
          rw [ey] at e0 e1 e2 zt zv HK
          clear at1 ey hfl Hk Hlast
          obtain ⟨yt, yv, yg⟩ := y
          simp only at e0 e1 e2 zt zv HK
          obtain ⟨zt1, zt2⟩ := zt
          have hb00 : gv < wr.heap.size := Nat.lt_of_lt_of_le hgv hbi.size
          have hbw : Below w.heap.size w wr := below_after hbi hb
          have hbw2 := hbw.size
          have hw : ∃ f' : Nat, f' ≤ j ∧ keepV fl x.Vers = x.Vers.drop f' ∧ ((yt ≤ fl ∧ yg = true ∧ f' = f + 1) ∨ (yt ≤ fl ∧ yg = false ∧ f' = f) ∨ (fl < yt ∧ f' = f)) := by
            have := HK.out
            by_cases h1 : yt ≤ fl
            · cases yg
              · rw [if_neg (by simp)] at this; exact ⟨f, by omega, this, Or.inr (Or.inl ⟨h1, rfl, rfl⟩)⟩
              · rw [if_pos ⟨h1, rfl⟩] at this; exact ⟨f + 1, by omega, this, Or.inl ⟨h1, rfl, rfl⟩⟩
            · rw [if_neg (by omega)] at this; exact ⟨f, by omega, this, Or.inr (Or.inr ⟨by omega, rfl⟩)⟩
          obtain ⟨f', hf', hkeep, hw⟩ := hw
          clear HK
          by_cases hfin : f' < j
          · have hf'I : (f' : Int) < (j : Int) := by omega
            have hf'0 : (0 : Int) ≤ (f' : Int) := by omega
            have hcf : ¬ cu = f' := by omega
            have hkl : ¬ (keepV fl x.Vers).length = 0 := by rw [hkeep, List.length_drop]; have := Hm.out; omega
            have Htc : Hid (trimL fl (l.take (k + 1)) = trimL fl (l.take k) ++ [⟨x.Key, x.Vers.drop f'⟩]) := Lib.hid (by
              rw [Ht.out, show trimC fl x = [⟨x.Key, x.Vers.drop f'⟩] from by unfold trimC; rw [if_neg hkl, hkeep]])
            have HR : Hid (∀ W, Below w1.heap.size w1 W → Rd Cod.ver W (.slice (some ⟨gv, ov + f' * 3, none⟩) (j - f') (cu - f')) (x.Vers.drop f')) := Lib.hid fun W k => (RU.out.below k).drop f' hfin
            have Hln : Hid ((x.Vers.drop f').length = j - f') := Lib.hid (by rw [List.length_drop, Hm.out])
            clear hkeep hkl
            have Hcl : Hid (∀ W, Below w1.heap.size w1 W → Calls Try.prog 160 #[.slice (some ⟨gv, ov + f' * 3, none⟩) (j - f') (cu - f')] W fun e w' => ∃ p' c', e = .returned (.slice p' (j - f') c') ∧ Own Cod.ver w' W.heap.size (.slice p' (j - f') c') (x.Vers.drop f') ∧ Below W.heap.size W w') := Lib.hid fun W k => by
              refine (cloneVer_any _ (x.Vers.drop f') (by rw [Hln.out]; omega) W (HR.out W k)).mono ?_
              rintro e w' ⟨v', rfl, o1, k1⟩
              obtain ⟨p', c', rfl⟩ := o1.form
              rw [Hln.out] at o1
              exact ⟨p', c', by rw [Hln.out], o1, k1⟩
            have hw3 : (yt ≤ fl ∧ yg = true ∧ (f : Int) + 1 = (f' : Int)) ∨ (yt ≤ fl ∧ yg = false ∧ f' = f) ∨ (fl < yt ∧ f' = f) := by
              rcases hw with ⟨h1, h2, rfl⟩ | ⟨h1, h2, rfl⟩ | ⟨h1, rfl⟩
              · exact Or.inl ⟨h1, h2, by omega⟩
              · exact Or.inr (Or.inl ⟨h1, h2, rfl⟩)
              · exact Or.inr (Or.inr ⟨h1, rfl⟩)
            clear hw
            rcases hw3 with ⟨h1, rfl, h2⟩ | ⟨h1, rfl, rfl⟩ | ⟨h1, rfl⟩
            all_goals
              go_upto_region 16 with fail
              have Hroom : Hid ((oL + 1) * 40 ≤ room) := Lib.hid (by unfold room; omega)
              go_region_law (first
                | (go_simp; go_at_call 160; refine (Hcl.out _ (by (repeat (first | (with_reducible exact Below.refl _ _) | (with_reducible refine below_setCell ?_ (by first | (simp; done) | (simp; omega) | omega)) | (with_reducible refine below_alloc _ ?_) | (with_reducible refine below_drewN ?_ _) | (with_reducible refine below_drew_step ?_) | (with_reducible assumption) | (with_reducible refine below_after (by assumption) ?_))))).mono ?_; rintro e w3 ⟨p', c', rfl, o3, k3⟩
                   have c03 : w3.cell? ⟨w1.heap.size, 0, none⟩ = some (.string x.Key) := ((bcell k3).1 _ _ (by simp; omega)).trans ((cell_alloc_old hsz).trans c0)
                   have hk3 : Below w1.heap.size w1 w3 := below_after k3 (by (repeat (first | (with_reducible exact Below.refl _ _) | (with_reducible refine below_setCell ?_ (by first | (simp; done) | (simp; omega) | omega)) | (with_reducible refine below_alloc _ ?_) | (with_reducible refine below_drewN ?_ _) | (with_reducible refine below_drew_step ?_) | (with_reducible assumption) | (with_reducible refine below_after (by assumption) ?_))))
                   have hq3 : w1.heap.size < w3.heap.size := by have := k3.size; simp at this; omega
                   obtain ⟨fv, rv, mv⟩ := o3
                   have Hx := Lib.hid (mk_cell (g := lst [.string x.Key, .slice p' (j - f') c']) (x := ⟨x.Key, x.Vers.drop f'⟩) rfl z0 rfl rv)
                   have Hmv : Hid (Mine w3 w1.heap.size fv) := Lib.hid (mv.mono (by simp; omega))
                   clear rv mv)
                | (refine step_append_part (c := Cod.cell) w3 rfl (.tmp 53) (.tmp 62) 26 rfl w.heap.size 100 100 i1 (.agg #[.string ⟨#[]⟩, .slice none 0 0]) 40 Try.underlying26 hi1 hy0 hy1 hy2 rfl (by decide) (by decide) w1 (.slice pa oL ca) oL (trimL fl (l.take k)) cells (by simp [Act.eval, Act.put]) Pc.out HoL.out hk3 ⟨x.Key, x.Vers.drop f'⟩ fv [.string x.Key, .slice p' (j - f') c'] rfl Hx.out Hmv.out w3.heap.size rfl (by simp [Act.eval, Act.put]) (by simp [Value.oneCell']) Hroom.out hbs ?_
                   intro g' cap' w4 hp4 hb4
                   have Hp4 := Lib.hid hp4
                   have hbw4 : Below w.heap.size w w4 := (below_after hk3 hb).trans hb4
                   clear hp4 hb4))
              all_goals
                go_wp2
                go_roundw
                case rel => exact ⟨k + 1, by go_num, by omega, Lib.hid (by rw [Htc.out]; unfold Grow; rw [List.length_append, HoL.out]; exact Hp4.out), hbw4⟩
                case measure => simp [intOf]; omega
          · obtain rfl : f' = j := by omega
            have Hend : Hid (Grow Cod.cell wr w.heap.size 100 (.slice pa oL ca) (trimL fl (l.take (k + 1)))) := Lib.hid (by
              rw [Ht.out, show trimC fl x = [] from by unfold trimC; rw [hkeep, List.drop_of_length_le (by have := Hm.out; omega)]; rfl, List.append_nil]
              have := Pc.out.below hbi
              rw [← HoL.out] at this ⊢
              exact ⟨_, this⟩)
            clear hkeep
            rcases hw with ⟨h1, rfl, rfl⟩ | ⟨h1, rfl, hx⟩ | ⟨h1, hx⟩
            · go_wp2
              go_roundw
              case rel => exact ⟨k + 1, by go_num, by omega, Lib.hid (Hend.out.below (below_new _ _)), below_alloc _ hbw⟩
              case measure => simp [intOf]; omega
            · omega
            · omega
    · have hlt2 : (n : Int) ≤ (k : Int) := by omega
      obtain rfl : k = n := by omega
      obtain ⟨pa, ca, rfl⟩ := Hp.out.form
      go_wp2
      go_ret
      have h3 := Hp.out.own
      rw [show l.take k = l from List.take_of_length_le (by have := Hn.out; omega)] at h3 ⊢
      exact ⟨_, rfl, h3, hb⟩

end Go.Proofs.Ytccmnffehhaobaa
