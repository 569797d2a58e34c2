/- What an append at the versions of one cell gives; impl.putCells. Printed by mkputc.py. -/
import Derived.Test.YtkcidneefdaaiaaCopyC
import Derived.Test.YtkcidneefdaaiaaInsC
import Derived.Test.YtkcidneefdaaiaaLastW
import Derived.Test.YtkcidneefdaaiaaAppR
import Derived.Test.YtkcidneefdaaiaaHeld
namespace Go.Proofs.Ytkcidneefdaaiaa
open Go.RowKit

theorem oneCell_cellR {w : World} {base : Nat} {e : TypeId} {v : Value} {n : Nat} {xs : List CellD} {cells : List Value} (h : PartC Cod.cellR w base e v n xs cells) (hn : xs.length = n) : ∀ u ∈ cells, u.oneCell' = true := by
  obtain ⟨fs, ho, _, hfl, hr, _⟩ := h
  intro u hu
  obtain ⟨j, hj, rfl⟩ := List.getElem_of_mem hu
  have hl : cells.length = n * 2 := ho.1
  have hk2 : j / 2 < xs.length := by omega
  obtain ⟨f1, f2, _, ⟨q0, _, _⟩, ⟨vL, hv, hR⟩⟩ := hr (j / 2) hk2 fs[j / 2] (List.getElem?_eq_getElem (by omega))
  rcases Nat.mod_two_eq_zero_or_one j with hm | hm
  · have q0' : cells[j / 2 * 2 + 0]? = some (.string xs[j / 2].Key) := q0
    rw [show j / 2 * 2 + 0 = j from by omega, List.getElem?_eq_getElem hj] at q0'
    injection q0' with q0'
    rw [q0']
    simp [Value.oneCell']
  · have hv' : cells[j / 2 * 2 + 1]? = some vL := hv
    rw [show j / 2 * 2 + 1 = j from by omega, List.getElem?_eq_getElem hj] at hv'
    injection hv' with hv'
    rw [hv']
    exact one_cellR hR

/-- What the versions' append must give for the cells to be whole again. -/
theorem vers_back {W w' : World} {base : Nat} {g n cap i : Nat} {m : List CellD} {cells : List Value} {fp : List Nat} {V' : List VerD} {v' : Value} (hi : i < m.length)
    (hback : ∀ w' v' L' fp', Cod.rdR Cod.ver w' v' L' fp' → fp'.Nodup → (∀ b ∈ fp', base ≤ b ∧ (b ∈ fp ∨ W.heap.size ≤ b)) → (∀ b ∈ fp', ∀ i, w'.frozen? ⟨b, i, none⟩ = false) → (∀ b, base ≤ b → b < W.heap.size → b ∉ fp → w'.heap[b]? = W.heap[b]?) →
        W.heap.size ≤ w'.heap.size → PartC Cod.cellR (w'.setCell ⟨g, i * 2 + 1, none⟩ v') base 57 (.slice (some ⟨g, 0, none⟩) n cap) n (m.set i ⟨m[i].Key, L'⟩) (cells.set (i * 2 + 1) v'))
    (hm : Mine W base fp) (hB : base ≤ W.heap.size) {g' : Nat} {fpo : List Nat} (hR : Cod.rdR Cod.ver w' v' V' (g' :: (fpo ++ []))) (h1 : fpo.Nodup ∧ (∀ b ∈ fpo, b ∈ fp) ∧ g' ∉ fpo ∧ (g' ∈ fp ∨ W.heap.size < g')) (hfz : ∀ b ∈ g' :: fpo, ∀ i, w'.frozen? ⟨b, i, none⟩ = false)
    (hb : Below base W w') (hk : ∀ b, b < W.heap.size → b ∉ fp → w'.heap[b]? = W.heap[b]?) :
    PartC Cod.cellR (w'.setCell ⟨g, i * 2 + 1, none⟩ v') base 57 (.slice (some ⟨g, 0, none⟩) n cap) n (m.set i ⟨m[i].Key, V'⟩) (cells.set (i * 2 + 1) v') := by
  rw [List.append_nil] at hR
  refine hback w' v' V' (g' :: fpo) hR (List.nodup_cons.2 ⟨h1.2.2.1, h1.1⟩) (fun b hb' => ?_) hfz (fun b _ hlt hn => hk b hlt hn) hb.size
  rcases List.mem_cons.1 hb' with rfl | hb'
  · rcases h1.2.2.2 with h | h
    · exact ⟨hm.low _ h, Or.inl h⟩
    · exact ⟨by omega, Or.inr (by omega)⟩
  · exact ⟨hm.low _ (h1.2.1 b hb'), Or.inl (h1.2.1 b hb')⟩

/-- What PutCells' parts return. -/
def CellsPost (q : Bool) (r : List CellD) (w : World) (e : Ending) (w' : World) : Prop := ∃ v', e = .returned (.tuple #[v', .bool q]) ∧ Own Cod.cell w' w.heap.size v' (pickL q r) ∧ Below w.heap.size w w'
theorem cells_no {r : List CellD} {w w' : World} (b : Below w.heap.size w w') : CellsPost false r w (.returned (.tuple #[.slice none 0 0, .bool false])) w' := ⟨.slice none 0 0, rfl, own_nil _ _ _, b⟩
theorem cells_yes {r : List CellD} {w w' : World} {v : Value} (o : Own Cod.cell w' w.heap.size v r) (b : Below w.heap.size w w') : CellsPost true r w (.returned (.tuple #[v, .bool true])) w' := ⟨v, rfl, o, b⟩
noncomputable def outQ (t : Int) (l : List CellD) (ws : List WriteD) : Bool := match foldC t l ws with | some m => goodCB m | none => false
noncomputable def outR (t : Int) (l : List CellD) (ws : List WriteD) : List CellD := (foldC t l ws).getD []

set_option maxRecDepth 100000 in
set_option maxHeartbeats 25600000 in
/-- impl.putCells -/
theorem putCells_any (v0 v1 : Value) (l : List CellD) (ws : List WriteD) (t : Int) (ht0 : 1 ≤ t) (ht1 : t ≤ 100000) (hg : WeakC l) (hl : costCellS l ≤ 50000) (hw : ws.length ≤ 100) (hwc : sumC costWrite ws ≤ 10000) (w : World) (h0 : Rd Cod.cell w v0 l) (h1 : Rd Cod.write w v1 ws) :
    Calls Try.prog 36 #[v0, v1, .int .i64 t] w (CellsPost (outQ t l ws) (outR t l ws) w) := by
  obtain ⟨j0, ji, jz0, jz1, jz2⟩ := info_parts Try_infoO_ver
  have Hc := Lib.hid (copyCellsC_any v0 l (by omega) w h0)
  obtain ⟨p1, c1, rfl, _, _, r⟩ := h1.form
  have R := Lib.hid r
  obtain ⟨n, hn⟩ : ∃ n, ws.length = n := ⟨_, rfl⟩
  have Hn := Lib.hid hn
  have Hweak : Hid (∀ k m, foldC t l (ws.take k) = some m → WeakC m ∧ costCellS m ≤ 70000) := Lib.hid fun k m hm => by
    obtain ⟨q1, q2⟩ := foldC_weak _ _ _ hg hm
    refine ⟨q1, ?_⟩
    have q3 : (ws.take k).length ≤ ws.length := by rw [List.length_take]; omega
    have q4 := sumC_le costWrite ws k
    omega
  rw [hn] at hw ⊢
  have hnI : (n : Int) ≤ 100 := by omega
  clear h0 h1 r hn hg hl hwc
  go_enter Try.func36, Try.ntmps36
  go_wp2_with fail
  refine Hc.out.mono ?_
  rintro e w1 ⟨v2, cells, rfl, hP, k1⟩
  have HP := Lib.hid hP
  clear hP Hc
  go_wp2
  go_loopw [8, 17] (fun a i wr => ∃ (k : Nat) (va : Value) (m : List CellD) (cs : List Value) (N : Nat), va = a ∧ i = .int .i64 (k : Int) ∧ k ≤ n ∧ Hid (foldC t l (ws.take k) = some m) ∧ Hid (m.length = N) ∧ Hid (PartC Cod.cellR wr w.heap.size 57 va N m cs) ∧ Below w.heap.size w wr) (fun _ i _ => n - (intOf i).toNat)
  case atStart => exact ⟨0, v2, l, cells, l.length, rfl, rfl, Nat.zero_le _, Lib.hid rfl, Lib.hid rfl, HP, k1⟩
  case round =>
    obtain ⟨k, va, mm, cs, N, rfl, rfl, hk, Hf, HN, Hp, hb⟩ := hrel
    clear HP k1
    obtain ⟨Hwk, Hco⟩ := Hweak.out k mm Hf.out
    have hN2 : N ≤ 70000 := by have := HN.out; unfold costCellS at Hco; omega
    have hRd := rd_weakC (Hp.out.own HN.out).rd
    have Hvlt : Hid (∀ b, va.ownBlock = some b → b < wr.heap.size) := Lib.hid fun b hb => (Hp.out.choose_spec.1.lt b hb).2
    by_cases hlt : k < n
    · have hltI : (k : Int) < (n : Int) := by omega
      have hkl : k < ws.length := by have := Hn.out; omega
      obtain ⟨gw, ow, rfl, hgw, hcw⟩ := R.out (by have := Hn.out; omega)
      have at0 := (hcw k hkl).below hgw hb
      have Hnx := Lib.hid (foldC_next hkl Hf.out)
      have Hstop : Hid (foldC t l (ws.take (k + 1)) = none → foldC t l ws = none) := Lib.hid foldC_stop
      obtain ⟨x, es⟩ : ∃ x, ws[k] = x := ⟨_, rfl⟩
      rw [es] at at0 Hnx
      clear hcw es hkl
      obtain ⟨d0, d1, d2, z0, z1⟩ := at_write at0
      rw [show ow + k * Cod.write.size = ow + k * 3 from rfl] at *
      clear at0
      have Hlast := Lib.hid (fun (W : World) (b : Below wr.heap.size wr W) => lastTimeW_any va mm x.Key (by omega) Hwk W (hRd.below b))
      have Hfind := Lib.hid (fun (W : World) (b : Below wr.heap.size wr W) => findCell_any va mm x.Key (by omega) Hwk.rise W (hRd.below b))
      have Hver : Hid (∀ W : World, Cod.ver.rd W (lst [.int .i64 t, .string x.Val, .bool x.Gone]) (newV t x) []) := Lib.hid fun W => mk_ver rfl (by unfold I64 newV; dsimp only; omega) rfl z1 rfl
      have HWk := Lib.hid Hwk
      have HCo := Lib.hid Hco
      obtain ⟨K, hK⟩ : ∃ K, x.Key = K := ⟨_, rfl⟩
      obtain ⟨V, hV⟩ : ∃ V, x.Val = V := ⟨_, rfl⟩
      obtain ⟨G, hG⟩ : ∃ G, x.Gone = G := ⟨_, rfl⟩
      rw [hK] at Hlast Hfind d0 z0
      rw [hV] at Hver d1 z1
      rw [hG] at Hver d2
      have HK := Lib.hid hK
      obtain ⟨T, hT⟩ : ∃ T, lastT mm K = T := ⟨_, rfl⟩
      rw [hT] at Hlast
      have HT := Lib.hid hT
      clear hK hV hG hT Hwk Hco hRd
      go_wp2_with fail
      refine (Hlast.out _ (by (repeat (first | (with_reducible exact Below.refl _ _) | (with_reducible refine below_setCell ?_ (by first | (simp; done) | (simp; omega) | omega)) | (with_reducible refine below_alloc _ ?_) | (with_reducible refine below_drewN ?_ _) | (with_reducible assumption) | (with_reducible refine below_after (by assumption) ?_))))).mono ?_
      rintro e w4 ⟨rfl, k4⟩
      have BX := (Blk.new wr 45 #[.string K, .string V, .bool G]).below k4
      have m4 : Below wr.heap.size wr w4 := below_after k4 (by (repeat (first | (with_reducible exact Below.refl _ _) | (with_reducible refine below_setCell ?_ (by first | (simp; done) | (simp; omega) | omega)) | (with_reducible refine below_alloc _ ?_) | (with_reducible refine below_drewN ?_ _) | (with_reducible assumption) | (with_reducible refine below_after (by assumption) ?_))))
      have x0 := BX.cell 0 (v := .string K) rfl
      have x1 := BX.cell 1 (v := .string V) rfl
      have x2 := BX.cell 2 (v := .bool G) rfl
      clear k4 Hlast d0 d1 d2
      by_cases htT : t ≤ T
      · have HQ : Hid (outQ t l ws = false) := Lib.hid (by
          have h1 : foldC t l ws = none := Hstop.out (by rw [Hnx.out]; unfold stepC; rw [HK.out, HT.out, if_neg (by omega)])
          unfold outQ
          rw [h1])
        have HF : Hid (CellsPost (outQ t l ws) (outR t l ws) w (.returned (.tuple #[.slice none 0 0, .bool false])) w4) := Lib.hid (by rw [HQ.out]; exact cells_no (below_after m4 hb))
        clear Hnx Hstop HQ
        go_wp2
        go_ret2
        exact HF.out
      have htT2 : T < t := by omega
      have Hf2 : Hid (foldC t l (ws.take (k + 1)) = some (putC t x mm)) := Lib.hid (by rw [Hnx.out]; unfold stepC; rw [HK.out, HT.out, if_pos htT2])
      clear Hnx Hstop htT
      go_wp2_with fail
      refine (Hfind.out _ m4).mono ?_
      rintro e w5 ⟨i, f, rfl, ⟨hin, hless, hmore, hff⟩, k5⟩
      replace BX := BX.below k5
      have m5 : Below wr.heap.size wr w5 := below_after k5 m4
      replace x0 := BX.cell 0 (v := .string K) rfl
      replace x1 := BX.cell 1 (v := .string V) rfl
      replace x2 := BX.cell 2 (v := .bool G) rfl
      have HP5 := Lib.hid (Hp.out.below m5)
      have Hb5 : Below w.heap.size w w5 := below_after m5 hb
      have hbase : w.heap.size ≤ w5.heap.size := Hb5.size
      have Hin : Hid (i ≤ N) := Lib.hid (by have := HN.out; omega)
      have Hless := Lib.hid hless
      have Hmore := Lib.hid hmore
      clear Hfind k5 m4 hin hless hmore Hp HT
      cases f
      · have Hnot : Hid (¬ ∃ h : i < mm.length, mm[i].Key = x.Key) := Lib.hid (by
          rw [HK.out]
          intro h
          rw [pB_true h] at hff
          cases hff)
        have HE0 := Lib.hid (putC_none (t := t) (x := x) HWk.out.rise (by rw [HK.out]; exact Hless.out) (by rw [HK.out]; exact Hmore.out) Hnot.out)
        have Hvlt2 := Hvlt.out
        have hown := HP5.out.choose_spec.1
        have Hown := Lib.hid hown
        have Hone := Lib.hid (oneCell_cellR HP5.out HN.out)
        have hne : some w5.heap.size ≠ va.ownBlock := fun e => by have := Hvlt2 _ e.symm; have := m5.size; omega
        have Hins := Lib.hid (fun (W : World) (o : W.ownsRow w.heap.size 57 2 va N cs) (hb' : w.heap.size ≤ W.heap.size) (H : Nat) (hH : W.heap[H]? = some (.cells #[.string K, .slice none 0 0] 57 (0, 0))) (hHn : some H ≠ va.ownBlock) => insC_any va N i cs (.string K) (.slice none 0 0) H w.heap.size W o Hin.out (by omega) hb' hH hHn (by simp [Value.oneCell']) Hone.out)
        clear hown hff Hless Hmore Hnot Hvlt2
        go_wp2_with fail
        refine (Hins.out _ (own_below Hown.out (below_new _ _)) (Nat.le_trans hbase (by simp)) w5.heap.size (by show (w5.heap.push _)[w5.heap.size]? = _; simp) hne).mono ?_
        rintro e w6 ⟨v', rfl, ho, hg2, hat⟩
        have hPa := HP5.out.below (below_new w5 (.cells #[.string K, .slice none 0 0] 57))
        have hP6 := hPa.insert (i := i) (cs := [.string K, .slice none 0 0]) (x := ⟨K, []⟩) HN.out Hin.out rfl (mk_cellR z0 (Or.inl ⟨rfl, rfl, rfl⟩)) ho hg2 hat
        obtain ⟨cs2, hP6⟩ : ∃ c2, PartC Cod.cellR w6 w.heap.size 57 v' (N + 1) (mm.take i ++ ⟨K, []⟩ :: mm.drop i) c2 := ⟨_, hP6⟩
        have hb6 : Below w.heap.size (w5.alloc (.cells #[.string K, .slice none 0 0] 57)) w6 := Below.grown (Below.refl _ _) hg2 (Nat.le_trans hbase (by simp)) fun j hj => (Hown.out.lt j hj).1
        have HbW : Below w.heap.size w w6 := (Hb5.trans ((below_new _ _).mono hbase)).trans hb6
        replace BX : Blk w6 wr.heap.size 45 #[.string K, .string V, .bool G] := (BX.below (below_new w5 _)).of (hg2.block _ (BX.below (below_new w5 _)).lt (fun e => by have := Hvlt.out _ e.symm; omega))
        clear Hins hPa ho hat hb6 Hown Hone hne hg2 x0 x1 x2
        rcases own_forms hP6.choose_spec.1 with ⟨_, hbad⟩ | ⟨g, cap, rfl⟩
        · omega
        have hlM : (mm.take i ++ (⟨K, []⟩ : CellD) :: mm.drop i).length = N + 1 := by
          rw [List.length_append, List.length_take, List.length_cons, List.length_drop]
          have := HN.out
          have := Hin.out
          omega
        have hiM0 : i < (mm.take i ++ (⟨K, []⟩ : CellD) :: mm.drop i).length := by have := Hin.out; omega
        have hti : (mm.take i).length = i := by rw [List.length_take]; have := HN.out; have := Hin.out; omega
        have hMi0 : (mm.take i ++ (⟨K, []⟩ : CellD) :: mm.drop i)[i] = ⟨K, []⟩ := by
          rw [List.getElem_append_right (by omega)]
          simp only [hti, Nat.sub_self, List.getElem_cons_zero]
        have hset : (mm.take i ++ (⟨K, []⟩ : CellD) :: mm.drop i).set i ⟨K, [newV t x]⟩ = mm.take i ++ ⟨K, [newV t x]⟩ :: mm.drop i := by
          rw [List.set_append_right _ _ (by omega), hti, Nat.sub_self, List.set_cons_zero]
        have HlenN : Hid ((putC t x mm).length = N + 1) := Lib.hid (by rw [HE0.out, HK.out, ← hset, List.length_set]; exact hlM)
        have hE1 : putC t x mm = (mm.take i ++ (⟨K, []⟩ : CellD) :: mm.drop i).set i ⟨K, [newV t x]⟩ := by rw [HE0.out, HK.out, hset]
        obtain ⟨M, hMe⟩ : ∃ M, mm.take i ++ (⟨K, []⟩ : CellD) :: mm.drop i = M := ⟨_, rfl⟩
        simp only [hMe] at hiM0 hMi0 hE1
        rw [hMe] at hP6
        have hiM := hiM0
        have HPm := Lib.hid hP6
        obtain ⟨Vs, hVs⟩ : ∃ Vs, M[i].Vers = Vs := ⟨_, rfl⟩
        have hVn : Vs = [] := by rw [← hVs, hMi0]
        have HE : Hid (putC t x mm = M.set i ⟨M[i].Key, Vs ++ [newV t x]⟩) := Lib.hid (by rw [hE1, hMi0, hVn]; rfl)
        have HroomV : Hid ((Vs.length + 1) * 32 ≤ room) := Lib.hid (by rw [hVn]; unfold room; decide)
        have hglo := (hP6.choose_spec.1.lt g rfl).1
        have hiI : (i : Int) < (N : Int) + 1 := by have := Hin.out; omega
        have x1 := BX.cell 1 (v := .string V) rfl
        have x2 := BX.cell 2 (v := .bool G) rfl
        replace hbase : w.heap.size ≤ w6.heap.size := HbW.size
        clear hlM hiM0 hti hMi0 hset hMe hP6 hE1 hVn HE0 m5 HP5 Hb5
        go_upto_region 10 with fail
        obtain ⟨Wd, hWd⟩ : ∃ Wd, w6.drew = Wd := ⟨_, rfl⟩
        have md : Below w6.heap.size w6 Wd := by rw [← hWd]; exact (Below.refl _ _).drew
        have hPd := HPm.out.below md
        obtain ⟨fp, vL, hR, hM, hgf, hflt, hvc, hvf, hback⟩ := versAt hPd i hiM
        have Hback := Lib.hid hback
        have HR := True.intro
        have HM := Lib.hid hM
        have hgd := (hPd.choose_spec.1.lt g rfl)
        rw [hVs] at hR
        obtain ⟨pL, cL, hvL⟩ : ∃ p c, vL = .slice p Vs.length c := by
          rcases hR with ⟨h1, h2, _⟩ | ⟨b, off, cap, fs, cur, e, h1, _⟩
          · exact ⟨none, 0, by rw [h2]; exact h1⟩
          · exact ⟨_, _, h1⟩
        subst hvL
        have HR2 := Lib.hid hR
        have hX1 := (BX.below md).cell 1 (v := .string V) rfl
        have hX2 := (BX.below md).cell 2 (v := .bool G) rfl
        have hXd := (BX.below md).lt
        have hS : Wd.cell? ⟨g, i * 2 + 1, none⟩ = some (.slice pL Vs.length cL) ∧ Wd.cell? ⟨wr.heap.size, 1, none⟩ = some (.string V) ∧ Wd.cell? ⟨wr.heap.size, 2, none⟩ = some (.bool G) := ⟨hvc, hX1, hX2⟩
        refine wp_region_d 14 (fun w' => w'.cell? ⟨g, i * 2 + 1, none⟩ = some (.slice pL Vs.length cL) ∧ w'.cell? ⟨wr.heap.size, 1, none⟩ = some (.string V) ∧ w'.cell? ⟨wr.heap.size, 2, none⟩ = some (.bool G)) (by kernel_rfl) ?_
        rw [hWd]
        clear hback hR hM hPd HR hWd
        refine d_takeY (v := ?_) 0 rfl (by kernel_rfl) (fun _ _ _ h => h) (Or.inl ⟨by rfl, ?_⟩) hS ?_
        rotate_left
        · intro wx _
          first | (go_simp; done) | (go_simp; with_reducible rfl)
        simp only [Act.put, List.setIfInBounds_toArray]
        refine d_takeY (v := ?_) 1 rfl (by kernel_rfl) (fun _ _ _ h => h) (Or.inl ⟨by rfl, ?_⟩) hS ?_
        rotate_left
        · intro wx _
          first | (go_simp; done) | (go_simp; with_reducible rfl)
        simp only [Act.put]
        refine d_take (f := 30) (v := ?_) 2 rfl (by kernel_rfl) (fun _ _ _ h => h) (Or.inl ⟨by rfl, ?_⟩) hS ?_
        rotate_left
        · intro wx hx
          obtain ⟨x0, x1, x2⟩ := hx
          first | (go_simp; done) | (go_simp; with_reducible rfl)
        simp only [Act.put]
        refine d_take (f := 30) (v := ?_) 3 rfl (by kernel_rfl) (fun _ _ _ h => h) (Or.inl ⟨by rfl, ?_⟩) hS ?_
        rotate_left
        · intro wx hx
          obtain ⟨x0, x1, x2⟩ := hx
          first | (go_simp; done) | (go_simp; with_reducible rfl)
        simp only [Act.put]
        refine d_take (f := 30) (v := ?_) 4 rfl (by kernel_rfl) (fun _ _ _ h => h) (Or.inl ⟨by rfl, ?_⟩) hS ?_
        rotate_left
        · intro wx hx
          obtain ⟨x0, x1, x2⟩ := hx
          first | (go_simp; done) | (go_simp; with_reducible rfl)
        simp only [Act.put]
        refine d_take (f := 30) (v := ?_) 5 rfl (by kernel_rfl) (fun _ _ _ h => h) (Or.inl ⟨by rfl, ?_⟩) hS ?_
        rotate_left
        · intro wx hx
          obtain ⟨x0, x1, x2⟩ := hx
          first | (go_simp; done) | (go_simp; with_reducible rfl)
        simp only [Act.put]
        refine d_take (f := 30) (v := ?_) 6 rfl (by kernel_rfl) (fun _ _ _ h => h) (Or.inl ⟨by rfl, ?_⟩) hS ?_
        rotate_left
        · intro wx hx
          obtain ⟨x0, x1, x2⟩ := hx
          first | (go_simp; done) | (go_simp; with_reducible rfl)
        simp only [Act.put]
        refine d_take (f := 30) (v := ?_) 7 rfl (by kernel_rfl) (fun _ _ _ h => h) (Or.inl ⟨by rfl, ?_⟩) hS ?_
        rotate_left
        · intro wx hx
          obtain ⟨x0, x1, x2⟩ := hx
          first | (go_simp; done) | (go_simp; with_reducible rfl)
        simp only [Act.put]
        refine d_take (f := 30) (v := ?_) 8 rfl (by kernel_rfl) (fun _ _ _ h => h) (Or.inl ⟨by rfl, ?_⟩) hS ?_
        rotate_left
        · intro wx hx
          obtain ⟨x0, x1, x2⟩ := hx
          first | (go_simp; done) | (go_simp; with_reducible rfl)
        simp only [Act.put]
        refine d_take (f := 30) (v := ?_) 9 rfl (by kernel_rfl) (fun _ _ _ h => h) (Or.inl ⟨by rfl, ?_⟩) hS ?_
        rotate_left
        · intro wx hx
          obtain ⟨x0, x1, x2⟩ := hx
          first | (go_simp; done) | (go_simp; with_reducible rfl)
        simp only [Act.put]
        refine d_take (f := 30) (v := ?_) 10 rfl (by kernel_rfl) (fun _ _ _ h => h) (Or.inl ⟨by rfl, ?_⟩) hS ?_
        rotate_left
        · intro wx hx
          obtain ⟨x0, x1, x2⟩ := hx
          first | (go_simp; done) | (go_simp; with_reducible rfl)
        simp only [Act.put]
        refine d_take (f := 30) (v := ?_) 11 rfl (by kernel_rfl) (fun _ _ _ h => h) (Or.inl ⟨by rfl, ?_⟩) hS ?_
        rotate_left
        · intro wx hx
          obtain ⟨x0, x1, x2⟩ := hx
          first | (go_simp; done) | (go_simp; with_reducible rfl)
        simp only [Act.put]
        refine d_takeY (v := ?_) 12 rfl (by kernel_rfl) (fun _ _ _ h => h) (Or.inl ⟨by rfl, ?_⟩) hS ?_
        rotate_left
        · intro wx _
          first | (go_simp; done) | (go_simp; with_reducible rfl)
        simp only [Act.put]
        refine d_step 13 (by kernel_rfl) rfl (fun KK hK => ?_)
        go_simp
        refine hK.out _ _ (fun _ => ⟨(cell_alloc_old hgd.2).trans hvc, (cell_alloc_old hXd).trans hX1, (cell_alloc_old hXd).trans hX2⟩) ?_
        clear hK KK
        try simp only [Act.put, List.setIfInBounds_toArray, List.set_cons_zero, List.set_cons_succ]
        have hBd : w.heap.size ≤ Wd.heap.size := Nat.le_trans hbase md.size
        refine d_step 14 (by kernel_rfl) rfl (fun KK hK => ?_)
        refine step_append_rdR (c := Cod.ver) Wd rfl _ _ 55 rfl w.heap.size 77 77 j0 (.agg #[.int .i64 0, .string ⟨#[]⟩, .bool false]) 32 Try.underlying55 ji jz0 jz1 jz2 rfl (by decide) (by decide) (.slice pL Vs.length cL) Vs fp (by simp [Act.eval]) HR2.out HM.out hBd (newV t x) [] [.int .i64 t, .string V, .bool G] rfl (Hver.out _) (fun b hb => by cases hb) Wd.heap.size rfl (by simp [Act.eval]) (by simp [Value.oneCell']) HroomV.out ?_
        intro g' off' cap' w9 fpo hR9 hf9 hz9 hb9 hk9
        have HP9 : Hid (PartC Cod.cellR (w9.setCell ⟨g, i * 2 + 1, none⟩ (.slice (some ⟨g', off', none⟩) (Vs.length + 1) cap')) w.heap.size 57 (.slice (some ⟨g, 0, none⟩) (N + 1) cap) (N + 1) (M.set i ⟨M[i].Key, Vs ++ [newV t x]⟩) (cs2.set (i * 2 + 1) (.slice (some ⟨g', off', none⟩) (Vs.length + 1) cap'))) := Lib.hid (vers_back hiM Hback.out HM.out hBd hR9 hf9 hz9 hb9 hk9)
        have hgk : w9.heap[g]? = Wd.heap[g]? := hk9 g hgd.2 hgf
        have c9 : w9.cell? ⟨g, i * 2 + 1, none⟩ = some (.slice pL Vs.length cL) := (World.cell?_of_block (a := ⟨g, i * 2 + 1, none⟩) hgk).trans hvc
        have z9 : w9.frozen? ⟨g, i * 2 + 1, none⟩ = false := (World.frozen?_of_block (a := ⟨g, i * 2 + 1, none⟩) hgk).trans hvf
        have bw9 : Below w.heap.size w w9 := (below_after md HbW).trans hb9
        refine hK.out _ _ (fun h => by exact absurd h (by decide)) ?_
        clear hK KK hR9 hf9 hz9 hb9 hk9 Hback HR2 HM hS hvc hvf hgk hX1 hX2 hXd
        try simp only [Act.put, List.setIfInBounds_toArray]
        refine d_takeYL (v := ?_) 15 rfl (by kernel_rfl) (fun _ _ _ h => h) (Or.inl ⟨by rfl, ?_⟩) ?_
        rotate_left
        · intro wx _
          first | (go_simp; done) | (go_simp; with_reducible rfl)
        simp only [Act.put]
        refine d_takeYL (v := ?_) 16 rfl (by kernel_rfl) (fun _ _ _ h => h) (Or.inl ⟨by rfl, ?_⟩) ?_
        rotate_left
        · intro wx _
          first | (go_simp; done) | (go_simp; with_reducible rfl)
        simp only [Act.put]
        refine d_step 17 (by kernel_rfl) rfl (fun KK hK => ?_)
        go_simp
        refine hK.out _ _ (fun h => by exact absurd h (by decide)) ?_
        clear hK KK
        refine d_done (by kernel_rfl) ?_ _
        try simp only [Act.put, List.setIfInBounds_toArray, List.set_cons_zero, List.set_cons_succ]
        have HP10 : Hid (PartC Cod.cellR (w9.setCell ⟨g, i * 2 + 1, none⟩ (.slice (some ⟨g', off', none⟩) (Vs.length + 1) cap')) w.heap.size 57 (.slice (some ⟨g, 0, none⟩) (N + 1) cap) (N + 1) (putC t x mm) (cs2.set (i * 2 + 1) (.slice (some ⟨g', off', none⟩) (Vs.length + 1) cap'))) := Lib.hid (by rw [HE.out]; exact HP9.out)
        have bw10 : Below w.heap.size w (w9.setCell ⟨g, i * 2 + 1, none⟩ (.slice (some ⟨g', off', none⟩) (Vs.length + 1) cap')) := bw9.setCell hglo _
        clear HP9 bw9 c9 z9
        go_wp2
        go_roundw
        case rel => exact ⟨k + 1, _, putC t x mm, _, (N + 1), rfl, by go_num, by omega, Hf2, HlenN, HP10, bw10⟩
        case measure => simp [intOf]; omega
      · skip
        have hex : ∃ h : i < mm.length, mm[i].Key = x.Key := by
          rw [HK.out]
          refine Classical.byContradiction fun h => ?_
          rw [pB_false h] at hff
          cases hff
        obtain ⟨hiM, hkey⟩ := hex
        have hE1 := putC_found (t := t) (x := x) hiM hkey (by rw [HK.out]; exact Hless.out)
        have hiN : i < N := by have := HN.out; omega
        rcases own_forms HP5.out.choose_spec.1 with ⟨_, hbad⟩ | ⟨g, cap, rfl⟩
        · omega
        have HPm := HP5
        obtain ⟨Vs, hVs⟩ : ∃ Vs, mm[i].Vers = Vs := ⟨_, rfl⟩
        have HE : Hid (putC t x mm = mm.set i ⟨mm[i].Key, Vs ++ [newV t x]⟩) := Lib.hid (by rw [hE1, hVs])
        have HroomV : Hid ((Vs.length + 1) * 32 ≤ room) := Lib.hid (by
          have q1 := sumC_get costCell mm i hiM
          have q2 : costCell mm[i] = mm[i].Key.size + costVerS mm[i].Vers := rfl
          have q3 := HCo.out
          unfold costCellS at q3
          unfold costVerS at q2
          rw [hVs] at q2
          unfold room
          omega)
        have HlenN : Hid ((putC t x mm).length = N) := Lib.hid (by rw [hE1, List.length_set]; exact HN.out)
        have hglo := (HP5.out.choose_spec.1.lt g rfl).1
        have hiI : (i : Int) < (N : Int) := by omega
        have HbW := Hb5
        clear hkey hE1 hff Hless Hmore m5 HP5 Hb5 x0
        go_upto_region 10 with fail
        obtain ⟨Wd, hWd⟩ : ∃ Wd, w5.drew = Wd := ⟨_, rfl⟩
        have md : Below w5.heap.size w5 Wd := by rw [← hWd]; exact (Below.refl _ _).drew
        have hPd := HPm.out.below md
        obtain ⟨fp, vL, hR, hM, hgf, hflt, hvc, hvf, hback⟩ := versAt hPd i hiM
        have Hback := Lib.hid hback
        have HR := True.intro
        have HM := Lib.hid hM
        have hgd := (hPd.choose_spec.1.lt g rfl)
        rw [hVs] at hR
        obtain ⟨pL, cL, hvL⟩ : ∃ p c, vL = .slice p Vs.length c := by
          rcases hR with ⟨h1, h2, _⟩ | ⟨b, off, cap, fs, cur, e, h1, _⟩
          · exact ⟨none, 0, by rw [h2]; exact h1⟩
          · exact ⟨_, _, h1⟩
        subst hvL
        have HR2 := Lib.hid hR
        have hX1 := (BX.below md).cell 1 (v := .string V) rfl
        have hX2 := (BX.below md).cell 2 (v := .bool G) rfl
        have hXd := (BX.below md).lt
        have hS : Wd.cell? ⟨g, i * 2 + 1, none⟩ = some (.slice pL Vs.length cL) ∧ Wd.cell? ⟨wr.heap.size, 1, none⟩ = some (.string V) ∧ Wd.cell? ⟨wr.heap.size, 2, none⟩ = some (.bool G) := ⟨hvc, hX1, hX2⟩
        refine wp_region_d 14 (fun w' => w'.cell? ⟨g, i * 2 + 1, none⟩ = some (.slice pL Vs.length cL) ∧ w'.cell? ⟨wr.heap.size, 1, none⟩ = some (.string V) ∧ w'.cell? ⟨wr.heap.size, 2, none⟩ = some (.bool G)) (by kernel_rfl) ?_
        rw [hWd]
        clear hback hR hM hPd HR hWd
        refine d_takeY (v := ?_) 0 rfl (by kernel_rfl) (fun _ _ _ h => h) (Or.inl ⟨by rfl, ?_⟩) hS ?_
        rotate_left
        · intro wx _
          first | (go_simp; done) | (go_simp; with_reducible rfl)
        simp only [Act.put, List.setIfInBounds_toArray]
        refine d_takeY (v := ?_) 1 rfl (by kernel_rfl) (fun _ _ _ h => h) (Or.inl ⟨by rfl, ?_⟩) hS ?_
        rotate_left
        · intro wx _
          first | (go_simp; done) | (go_simp; with_reducible rfl)
        simp only [Act.put]
        refine d_take (f := 30) (v := ?_) 2 rfl (by kernel_rfl) (fun _ _ _ h => h) (Or.inl ⟨by rfl, ?_⟩) hS ?_
        rotate_left
        · intro wx hx
          obtain ⟨x0, x1, x2⟩ := hx
          first | (go_simp; done) | (go_simp; with_reducible rfl)
        simp only [Act.put]
        refine d_take (f := 30) (v := ?_) 3 rfl (by kernel_rfl) (fun _ _ _ h => h) (Or.inl ⟨by rfl, ?_⟩) hS ?_
        rotate_left
        · intro wx hx
          obtain ⟨x0, x1, x2⟩ := hx
          first | (go_simp; done) | (go_simp; with_reducible rfl)
        simp only [Act.put]
        refine d_take (f := 30) (v := ?_) 4 rfl (by kernel_rfl) (fun _ _ _ h => h) (Or.inl ⟨by rfl, ?_⟩) hS ?_
        rotate_left
        · intro wx hx
          obtain ⟨x0, x1, x2⟩ := hx
          first | (go_simp; done) | (go_simp; with_reducible rfl)
        simp only [Act.put]
        refine d_take (f := 30) (v := ?_) 5 rfl (by kernel_rfl) (fun _ _ _ h => h) (Or.inl ⟨by rfl, ?_⟩) hS ?_
        rotate_left
        · intro wx hx
          obtain ⟨x0, x1, x2⟩ := hx
          first | (go_simp; done) | (go_simp; with_reducible rfl)
        simp only [Act.put]
        refine d_take (f := 30) (v := ?_) 6 rfl (by kernel_rfl) (fun _ _ _ h => h) (Or.inl ⟨by rfl, ?_⟩) hS ?_
        rotate_left
        · intro wx hx
          obtain ⟨x0, x1, x2⟩ := hx
          first | (go_simp; done) | (go_simp; with_reducible rfl)
        simp only [Act.put]
        refine d_take (f := 30) (v := ?_) 7 rfl (by kernel_rfl) (fun _ _ _ h => h) (Or.inl ⟨by rfl, ?_⟩) hS ?_
        rotate_left
        · intro wx hx
          obtain ⟨x0, x1, x2⟩ := hx
          first | (go_simp; done) | (go_simp; with_reducible rfl)
        simp only [Act.put]
        refine d_take (f := 30) (v := ?_) 8 rfl (by kernel_rfl) (fun _ _ _ h => h) (Or.inl ⟨by rfl, ?_⟩) hS ?_
        rotate_left
        · intro wx hx
          obtain ⟨x0, x1, x2⟩ := hx
          first | (go_simp; done) | (go_simp; with_reducible rfl)
        simp only [Act.put]
        refine d_take (f := 30) (v := ?_) 9 rfl (by kernel_rfl) (fun _ _ _ h => h) (Or.inl ⟨by rfl, ?_⟩) hS ?_
        rotate_left
        · intro wx hx
          obtain ⟨x0, x1, x2⟩ := hx
          first | (go_simp; done) | (go_simp; with_reducible rfl)
        simp only [Act.put]
        refine d_take (f := 30) (v := ?_) 10 rfl (by kernel_rfl) (fun _ _ _ h => h) (Or.inl ⟨by rfl, ?_⟩) hS ?_
        rotate_left
        · intro wx hx
          obtain ⟨x0, x1, x2⟩ := hx
          first | (go_simp; done) | (go_simp; with_reducible rfl)
        simp only [Act.put]
        refine d_take (f := 30) (v := ?_) 11 rfl (by kernel_rfl) (fun _ _ _ h => h) (Or.inl ⟨by rfl, ?_⟩) hS ?_
        rotate_left
        · intro wx hx
          obtain ⟨x0, x1, x2⟩ := hx
          first | (go_simp; done) | (go_simp; with_reducible rfl)
        simp only [Act.put]
        refine d_takeY (v := ?_) 12 rfl (by kernel_rfl) (fun _ _ _ h => h) (Or.inl ⟨by rfl, ?_⟩) hS ?_
        rotate_left
        · intro wx _
          first | (go_simp; done) | (go_simp; with_reducible rfl)
        simp only [Act.put]
        refine d_step 13 (by kernel_rfl) rfl (fun KK hK => ?_)
        go_simp
        refine hK.out _ _ (fun _ => ⟨(cell_alloc_old hgd.2).trans hvc, (cell_alloc_old hXd).trans hX1, (cell_alloc_old hXd).trans hX2⟩) ?_
        clear hK KK
        try simp only [Act.put, List.setIfInBounds_toArray, List.set_cons_zero, List.set_cons_succ]
        have hBd : w.heap.size ≤ Wd.heap.size := Nat.le_trans hbase md.size
        refine d_step 14 (by kernel_rfl) rfl (fun KK hK => ?_)
        refine step_append_rdR (c := Cod.ver) Wd rfl _ _ 55 rfl w.heap.size 77 77 j0 (.agg #[.int .i64 0, .string ⟨#[]⟩, .bool false]) 32 Try.underlying55 ji jz0 jz1 jz2 rfl (by decide) (by decide) (.slice pL Vs.length cL) Vs fp (by simp [Act.eval]) HR2.out HM.out hBd (newV t x) [] [.int .i64 t, .string V, .bool G] rfl (Hver.out _) (fun b hb => by cases hb) Wd.heap.size rfl (by simp [Act.eval]) (by simp [Value.oneCell']) HroomV.out ?_
        intro g' off' cap' w9 fpo hR9 hf9 hz9 hb9 hk9
        have HP9 : Hid (PartC Cod.cellR (w9.setCell ⟨g, i * 2 + 1, none⟩ (.slice (some ⟨g', off', none⟩) (Vs.length + 1) cap')) w.heap.size 57 (.slice (some ⟨g, 0, none⟩) N cap) N (mm.set i ⟨mm[i].Key, Vs ++ [newV t x]⟩) (cs.set (i * 2 + 1) (.slice (some ⟨g', off', none⟩) (Vs.length + 1) cap'))) := Lib.hid (vers_back hiM Hback.out HM.out hBd hR9 hf9 hz9 hb9 hk9)
        have hgk : w9.heap[g]? = Wd.heap[g]? := hk9 g hgd.2 hgf
        have c9 : w9.cell? ⟨g, i * 2 + 1, none⟩ = some (.slice pL Vs.length cL) := (World.cell?_of_block (a := ⟨g, i * 2 + 1, none⟩) hgk).trans hvc
        have z9 : w9.frozen? ⟨g, i * 2 + 1, none⟩ = false := (World.frozen?_of_block (a := ⟨g, i * 2 + 1, none⟩) hgk).trans hvf
        have bw9 : Below w.heap.size w w9 := (below_after md HbW).trans hb9
        refine hK.out _ _ (fun h => by exact absurd h (by decide)) ?_
        clear hK KK hR9 hf9 hz9 hb9 hk9 Hback HR2 HM hS hvc hvf hgk hX1 hX2 hXd
        try simp only [Act.put, List.setIfInBounds_toArray]
        refine d_takeYL (v := ?_) 15 rfl (by kernel_rfl) (fun _ _ _ h => h) (Or.inl ⟨by rfl, ?_⟩) ?_
        rotate_left
        · intro wx _
          first | (go_simp; done) | (go_simp; with_reducible rfl)
        simp only [Act.put]
        refine d_takeYL (v := ?_) 16 rfl (by kernel_rfl) (fun _ _ _ h => h) (Or.inl ⟨by rfl, ?_⟩) ?_
        rotate_left
        · intro wx _
          first | (go_simp; done) | (go_simp; with_reducible rfl)
        simp only [Act.put]
        refine d_step 17 (by kernel_rfl) rfl (fun KK hK => ?_)
        go_simp
        refine hK.out _ _ (fun h => by exact absurd h (by decide)) ?_
        clear hK KK
        refine d_done (by kernel_rfl) ?_ _
        try simp only [Act.put, List.setIfInBounds_toArray, List.set_cons_zero, List.set_cons_succ]
        have HP10 : Hid (PartC Cod.cellR (w9.setCell ⟨g, i * 2 + 1, none⟩ (.slice (some ⟨g', off', none⟩) (Vs.length + 1) cap')) w.heap.size 57 (.slice (some ⟨g, 0, none⟩) N cap) N (putC t x mm) (cs.set (i * 2 + 1) (.slice (some ⟨g', off', none⟩) (Vs.length + 1) cap'))) := Lib.hid (by rw [HE.out]; exact HP9.out)
        have bw10 : Below w.heap.size w (w9.setCell ⟨g, i * 2 + 1, none⟩ (.slice (some ⟨g', off', none⟩) (Vs.length + 1) cap')) := bw9.setCell hglo _
        clear HP9 bw9 c9 z9
        go_wp2
        go_roundw
        case rel => exact ⟨k + 1, _, putC t x mm, _, N, rfl, by go_num, by omega, Hf2, HlenN, HP10, bw10⟩
        case measure => simp [intOf]; omega
    · have hltI : (n : Int) ≤ (k : Int) := by omega
      obtain rfl : k = n := by omega
      have hfold : foldC t l ws = some mm := by have := Hf.out; rwa [List.take_of_length_le (by have := Hn.out; omega)] at this
      have HQ : Hid (outQ t l ws = goodCB mm) := Lib.hid (by unfold outQ; rw [hfold])
      have HRr : Hid (outR t l ws = mm) := Lib.hid (by unfold outR; rw [hfold]; rfl)
      have Hgc := Lib.hid (goodCells_any va mm (by omega) wr hRd)
      have HO := Lib.hid (own_weakC (Hp.out.own HN.out))
      clear hfold hRd Hp Hwk Hco Hf
      obtain ⟨q, hq⟩ : ∃ q, goodCB mm = q := ⟨_, rfl⟩
      rw [hq] at HQ Hgc
      clear hq
      cases q
      · go_wp2_with fail
        refine Hgc.out.mono ?_
        rintro e w4 ⟨rfl, k4⟩
        have HF : Hid (CellsPost (outQ t l ws) (outR t l ws) w (.returned (.tuple #[.slice none 0 0, .bool false])) w4) := Lib.hid (by rw [HQ.out]; exact cells_no (below_after k4 hb))
        go_wp2
        go_ret2
        exact HF.out
      · go_wp2_with fail
        refine Hgc.out.mono ?_
        rintro e w4 ⟨rfl, k4⟩
        have HF : Hid (CellsPost (outQ t l ws) (outR t l ws) w (.returned (.tuple #[va, .bool true])) w4) := Lib.hid (by rw [HQ.out, HRr.out]; exact cells_yes (HO.out.below k4) (below_after k4 hb))
        go_wp2
        go_ret2
        exact HF.out

end Go.Proofs.Ytkcidneefdaaiaa
