/- spec.l3Put. Printed by mkputd.py. -/
import Derived.Test.YtkcidneefdaaiaaPutCI
import Derived.Test.YtkcidneefdaaiaaRawC
import Derived.Lib.AppendZeros
import Derived.Deep.QuietTactic
import Derived.BigQuiet
namespace Go.Proofs.Ytkcidneefdaaiaa
open Go.RowKit

theorem row_ne {w : World} {base : Nat} {e e' : TypeId} {sz n B : Nat} {v : Value} {cs : List Value} {c2 : Array Value} (h : w.ownsRow base e sz v n cs) (k : Blk w B e' c2) (hne : e ≠ e') : some B ≠ v.ownBlock := fun eq => by
  rcases own_forms h with ⟨rfl, _⟩ | ⟨g, cap, rfl⟩
  · cases eq
  · obtain ⟨_, cur, hgb, _⟩ := own_some h
    have : B = g := Option.some.inj eq
    subst this
    unfold Blk at k
    rw [hgb] at k
    injection k with k
    injection k with _ k
    exact hne k

/-- The new row of cells, whole. -/
theorem ins_fresh {w5 wz : World} {base bz B N k nd : Nat} {va sv : Value} {mm : List CellD} {cs LTc LDc : List Value} {t : Int} {x : WriteD} {K V : ByteArray} {G : Bool} {r : List CellD} {v8 : Nat}
    (hP : PartC Cod.cellR w5 base 57 va N mm cs) (hN : mm.length = N) (hk : k ≤ N) (hb5 : base ≤ w5.heap.size) (h8 : w5.heap.size ≤ v8) (hB : v8 ≤ B) (he : r = mm.take k ++ ⟨K, [newV t x]⟩ :: mm.drop k)
    (hLT : LTc = cs.take (k * 2)) (hLD : LDc = cs.drop (k * 2)) (hnd : k + nd = N) (hX : Blk wz B 77 #[.int .i64 t, .string V, .bool G]) (hver : ∀ W : World, Cod.ver.rd W (lst [.int .i64 t, .string V, .bool G]) (newV t x) []) (hK : K.size ≤ maxLen)
    (ho : wz.ownsRow bz 57 2 sv (0 + k + 1 + nd) ([] ++ LTc ++ [.string K, .slice (some ⟨B, 0, none⟩) 1 1] ++ LDc)) (kg : Below w5.heap.size w5 wz) (hbz : w5.heap.size ≤ bz) : ∃ c9, PartC Cod.cellR wz base 57 sv (N + 1) r c9 := by
  subst he hLT hLD
  have ho2 : wz.ownsRow base 57 Cod.cellR.size sv (N + 1) (cs.take (k * Cod.cellR.size) ++ ([.string K, .slice (some ⟨B, 0, none⟩) 1 1] ++ cs.drop (k * Cod.cellR.size))) := by
    have h1 := ownsRow_le ho (Nat.le_trans hb5 hbz)
    rw [show 0 + k + 1 + nd = N + 1 from by omega, List.nil_append, List.append_assoc] at h1
    exact h1
  have hne := row_ne ho hX (by decide)
  refine ⟨_, hP.insertF (f := [B]) hN hk rfl (mk_cellR hK (rdR_box hX hver)) ⟨by simp, fun b hb => ?_, fun b hb o => ?_⟩ hb5 ho2 kg fun b hb => ⟨?_, fun hm => ?_⟩⟩
  · rw [List.mem_singleton] at hb; omega
  · rw [List.mem_singleton] at hb; subst hb; exact hX.frozen o
  · have := (ho.lt b hb).1; omega
  · rw [List.mem_singleton] at hm; subst hm; exact hne hb.symm

/-- What spec.l3Put says. -/
def PutPostC (t : Int) (l : List CellD) (ws : List WriteD) (w : World) (e : Ending) (w' : World) : Prop := ∃ v' r, e = .returned (.tuple #[v', .bool (outQ t l ws)]) ∧ Own Cod.cell w' w.heap.size v' r ∧ (outQ t l ws = true → r = outR t l ws) ∧ Below w.heap.size w w'

theorem atK {w : World} {base : Nat} {e : TypeId} {g n cap : Nat} {L : List CellD} {cells : List Value} (h : PartC Cod.cellR w base e (.slice (some ⟨g, 0, none⟩) n cap) n L cells) (hn : L.length = n) {j : Nat} (hj : j < L.length) : w.cell? ⟨g, j * 2, none⟩ = some (.string L[j].Key) := by
  obtain ⟨p, cap', e1, _, _, r⟩ := (rd_weakC (h.own hn).rd).form
  obtain ⟨g', o, e2, _, hc⟩ := r (by omega)
  injection e1 with e1
  rw [e2] at e1
  injection e1 with e1
  injection e1 with e3 e4
  subst e3 e4
  have := (at_cell (hc j hj)).1
  rwa [show 0 + j * Cod.cell.size = j * 2 from by rw [Nat.zero_add]; rfl] at this

set_option maxRecDepth 100000 in
set_option maxHeartbeats 51200000 in
/-- spec.l3Put -/
theorem l3Put_any (v0 v1 : Value) (l : List CellD) (ws : List WriteD) (t : Int) (ht0 : 1 ≤ t) (ht1 : t ≤ 100000) (hg : WeakC l) (hl : costCellS l ≤ 50000) (hw : ws.length ≤ 100) (hwc : sumC costWrite ws ≤ 10000) (w : World) (h0 : Rd Cod.cell w v0 l) (h1 : Rd Cod.write w v1 ws) :
    Calls Try.prog 32 #[v0, v1, .int .i64 t] w (PutPostC t l ws w) := by
  obtain ⟨j0, ji, jz0, jz1, jz2⟩ := info_parts Try_infoO_ver
  have Hc := Lib.hid (l3OwnC_any v0 l (by omega) w h0)
  obtain ⟨p1, c1, rfl, _, _, r⟩ := h1.form
  have R := Lib.hid r
  obtain ⟨n, hn⟩ : ∃ n, ws.length = n := ⟨_, rfl⟩
  have Hn := Lib.hid hn
  have Hweak : Hid (∀ k m, foldC t l (ws.take k) = some m → WeakC m ∧ costCellS m ≤ 70000) := Lib.hid fun k m hm => by
    obtain ⟨q1, q2⟩ := foldC_weak _ _ _ hg hm
    refine ⟨q1, ?_⟩
    have q3 : (ws.take k).length ≤ ws.length := by rw [List.length_take]; omega
    have q4 := sumC_le costWrite ws k
    omega
  rw [hn] at hw ⊢
  have hnI : (n : Int) ≤ 100 := by omega
  clear h0 h1 r hn hg hl hwc
  go_enter Try.func32, Try.ntmps32
  go_wp2_with fail
  refine Hc.out.mono ?_
  rintro e w1 ⟨v2, cells, rfl, hP, k1⟩
  have HP := Lib.hid hP
  clear hP Hc
  go_wp2
  go_loopw [8, 18] (fun a i wr => ∃ (ki : Nat) (va : Value) (m : List CellD) (cs : List Value) (N : Nat), va = a ∧ i = .int .i64 (ki : Int) ∧ ki ≤ n ∧ Hid (foldC t l (ws.take ki) = some m) ∧ Hid (m.length = N) ∧ Hid (PartC Cod.cellR wr w.heap.size 57 va N m cs) ∧ Below w.heap.size w wr) (fun _ i _ => n - (intOf i).toNat)
  case atStart => exact ⟨0, v2, l, cells, l.length, rfl, rfl, Nat.zero_le _, Lib.hid rfl, Lib.hid rfl, HP, k1⟩
  case round =>
    obtain ⟨ki, va, mm, cs, N, rfl, rfl, hki, Hf, HN, Hp, hb⟩ := hrel
    clear HP k1
    obtain ⟨Hwk, Hco⟩ := Hweak.out ki mm Hf.out
    have hN2 : N ≤ 70000 := by have := HN.out; unfold costCellS at Hco; omega
    have hRd := rd_weakC (Hp.out.own HN.out).rd
    by_cases hlt : ki < n
    · have hltI : (ki : Int) < (n : Int) := by omega
      have hkl : ki < ws.length := by have := Hn.out; omega
      obtain ⟨gw, ow, rfl, hgw, hcw⟩ := R.out (by have := Hn.out; omega)
      have at0 := (hcw ki hkl).below hgw hb
      have Hnx := Lib.hid (foldC_next hkl Hf.out)
      have Hstop : Hid (foldC t l (ws.take (ki + 1)) = none → foldC t l ws = none) := Lib.hid foldC_stop
      obtain ⟨x, es⟩ : ∃ x, ws[ki] = x := ⟨_, rfl⟩
      rw [es] at at0 Hnx
      clear hcw es hkl
      obtain ⟨d0, d1, d2, z0, z1⟩ := at_write at0
      rw [show ow + ki * Cod.write.size = ow + ki * 3 from rfl] at *
      clear at0
      have Hlast := Lib.hid (fun (W : World) (b : Below wr.heap.size wr W) => l3LastW_any va mm x.Key (by omega) Hwk W (hRd.below b))
      have Hver : Hid (∀ W : World, Cod.ver.rd W (lst [.int .i64 t, .string x.Val, .bool x.Gone]) (newV t x) []) := Lib.hid fun W => mk_ver rfl (by unfold I64 newV; dsimp only; omega) rfl z1 rfl
      have HWk := Lib.hid Hwk
      have HCo := Lib.hid Hco
      obtain ⟨K, hK⟩ : ∃ K, x.Key = K := ⟨_, rfl⟩
      obtain ⟨V, hV⟩ : ∃ V, x.Val = V := ⟨_, rfl⟩
      obtain ⟨G, hG⟩ : ∃ G, x.Gone = G := ⟨_, rfl⟩
      rw [hK] at Hlast d0 z0
      rw [hV] at Hver d1 z1
      rw [hG] at Hver d2
      have HK := Lib.hid hK
      have Hlater : Hid (HasNo mm K → foldC t l (ws.take (ki + 1)) = some (putC t x mm)) := Lib.hid fun hno => by
        rw [Hnx.out]
        unfold stepC
        have : lastT mm x.Key = 0 := by unfold lastT; rw [HK.out, cellK_none hno]
        rw [this, if_pos (by omega)]
      have Hnone : Hid (∀ k, k ≤ mm.length → (∀ j (h : j < mm.length), k ≤ j → ltB K mm[j].Key = true) → (∀ j (h : j < mm.length), j < k → ltB mm[j].Key K = true) → HasNo mm K ∧ putC t x mm = mm.take k ++ ⟨K, [newV t x]⟩ :: mm.drop k) := Lib.hid fun k hk h1 h2 => by
        have hno : HasNo mm K := fun j hj e => by
          rcases Nat.lt_or_ge j k with h | h
          · have := h2 j hj h
            rw [e, ltB_irrefl] at this
            cases this
          · have := h1 j hj h
            rw [e, ltB_irrefl] at this
            cases this
        refine ⟨hno, ?_⟩
        rw [putC_none (t := t) (x := x) Hwk.rise (i := k) (fun j hj h => by rw [HK.out]; exact h2 j hj h) (fun j hj h => by
          rw [HK.out]
          cases hq : ltB mm[j].Key K
          · rfl
          · have := ltB_trans (h1 j hj h) hq
            rw [ltB_irrefl] at this
            cases this) (fun ⟨h3, h4⟩ => hno k h3 (by rw [h4, HK.out])), HK.out]
      clear hK hV hG Hwk Hco hRd
      go_upto_region 6 with fail
      generalize hW0 : World.alloc _ _ = W0
      have HX0 : Hid (Blk W0 wr.heap.size 45 #[.string K, .string V, .bool G]) := Lib.hid (by rw [← hW0]; exact (Blk.new _ _ _).alloc _)
      have HV0 : Hid (Blk W0 (wr.heap.size + 1) 77 #[.int .i64 t, .string V, .bool G]) := Lib.hid (by
        have h1 := Blk.new (wr.alloc (.cells #[.string K, .string V, .bool G] 45)) 77 #[.int .i64 t, .string V, .bool G]
        rw [hW0, show (wr.alloc (.cells #[.string K, .string V, .bool G] 45)).heap.size = wr.heap.size + 1 from by simp] at h1
        exact h1)
      have m0 : Below wr.heap.size wr W0 := by rw [← hW0]; (repeat (first | (with_reducible exact Below.refl _ _) | (with_reducible refine below_setCell ?_ (by first | (simp; done) | (simp; omega) | omega)) | (with_reducible refine below_alloc _ ?_) | (with_reducible refine below_drewN ?_ _) | (with_reducible assumption) | (with_reducible refine below_after (by assumption) ?_)))
      clear hW0 d0 d1 d2
      obtain ⟨wo, rfl⟩ : ∃ wo : World, wo = wr := ⟨_, rfl⟩
      rcases own_forms Hp.out.choose_spec.1 with ⟨rfl, rfl⟩ | ⟨g, cap, rfl⟩
      · have hmm0 : mm = [] := List.eq_nil_of_length_eq_zero HN.out
        have hcs0 : cs = [] := List.eq_nil_of_length_eq_zero (by have := Hp.out.choose_spec.1.1; omega)
        obtain ⟨hno, hE⟩ := Hnone.out 0 (Nat.zero_le _) (fun j hj _ => by rw [hmm0] at hj; simp at hj) (fun j hj h => by omega)
        have HE := Lib.hid hE
        have Hf2 := Lib.hid (Hlater.out hno)
        have Hcs0 := Lib.hid hcs0
        clear hmm0 hcs0 hno hE Hnone Hlater Hnx Hstop Hlast
        go_wp2_with fail
        go_loopw [12] (fun i wr => i = .int .i64 0 ∧ Hid (Blk wr wo.heap.size 45 #[.string K, .string V, .bool G]) ∧ Hid (Blk wr (wo.heap.size + 1) 77 #[.int .i64 t, .string V, .bool G]) ∧ Below wo.heap.size wo wr) (fun i _ => (intOf i).toNat)
        case atStart => exact ⟨rfl, HX0, HV0, m0⟩
        case round =>
          obtain ⟨rfl, HX, HXV, hbi⟩ := hrel
          clear HX0 HV0 m0
          go_wp2_with fail
          go_quiet (fail)
          go_wp2_with fail
          go_quiet (fail)
          go_upto_region 13 with fail
          generalize hw5 : World.drewN _ _ = w5
          have hbo : Below wo.heap.size wo w5 := by rw [← hw5]; (repeat (first | (with_reducible exact Below.refl _ _) | (with_reducible refine below_setCell ?_ (by first | (simp; done) | (simp; omega) | omega)) | (with_reducible refine below_alloc _ ?_) | (with_reducible refine below_drewN ?_ _) | (with_reducible assumption) | (with_reducible refine below_after (by assumption) ?_)))
          have BX5 : Blk w5 wo.heap.size 45 #[.string K, .string V, .bool G] := by rw [← hw5]; exact (HX.out.drewN _).drewN _
          have BV5 : Blk w5 (wo.heap.size + 1) 77 #[.int .i64 t, .string V, .bool G] := by rw [← hw5]; exact (HXV.out.drewN _).drewN _
          have HP5 := Lib.hid (Hp.out.below hbo)
          have Hb5 : Below w.heap.size w w5 := below_after hbo hb
          have hbw5 : w.heap.size ≤ w5.heap.size := Hb5.size
          have ho5 := HP5.out.choose_spec.1
          have hcl5 : cs.length = 0 * 2 := ho5.1
          have hone := oneCell_cellR HP5.out HN.out
          obtain ⟨LDc, hLD⟩ : ∃ L, L = cs.drop (0 * 2) := ⟨_, rfl⟩
          obtain ⟨LTc, hLT⟩ : ∃ L, L = cs.take (0 * 2) := ⟨_, rfl⟩
          have hLD1 : ∀ u ∈ LDc, u.oneCell' = true := fun u hu => by rw [hLD] at hu; exact hone u (List.mem_of_mem_drop hu)
          have HSD : Hid (SrcOf w5 (.slice none 0 0) 0 LDc) := Lib.hid (by rw [hLD]; exact (Or.inl ⟨rfl, rfl, by rw [Hcs0.out]; rfl⟩))
          have HST : Hid (SrcOf w5 (.slice none 0 0) 0 LTc) := Lib.hid (by rw [hLT]; exact (Or.inl ⟨rfl, rfl, by rw [Hcs0.out]; rfl⟩))
          have hkN : 0 ≤ 0 := Nat.le_refl _
          have HlenN : Hid ((putC t x mm).length = 0 + 1) := Lib.hid (by rw [HE.out, List.length_append, List.length_take, List.length_cons, List.length_drop]; have := HN.out; omega)
          clear hw5 hbo HX HXV ho5 hone hcl5
          obtain ⟨s7, w7, hrun7, ho7, hg7, hb7⟩ := run_append_cells (w5.alloc (.cells #[] 57)) 33 w5.heap.size (by simp) (made0 (w0 := w5) (e := 57) (size := 2) rfl (Nat.le_refl _)) (HSD.out.below (below_new _ _)) (by omega)
          go_wp2_with (at_builtin; go_must (refine Lib.wpList_append_run _ rfl _ _ 33 33 rfl _ _ rfl rfl s7 w7 hrun7 ?_))
          have k7 : Below w5.heap.size w5 w7 := (below_new _ _).trans hb7
          have HS7 : Hid (SrcOf w7 s7 0 LDc) := Lib.hid (by have := src_own ho7 (by simpa using hLD1); simpa using this)
          clear hrun7 ho7 hg7 hb7
          go_upto_region 14 with fail
          refine wp_region_d 14 (fun w' => w'.cell? ⟨wo.heap.size, 0, none⟩ = some (.string K) ∧ w'.cell? ⟨wo.heap.size + 1, 0, none⟩ = some (.int .i64 t) ∧ w'.cell? ⟨wo.heap.size + 1, 1, none⟩ = some (.string V) ∧ w'.cell? ⟨wo.heap.size + 1, 2, none⟩ = some (.bool G)) (by kernel_rfl) ?_
          obtain ⟨w8, hw8⟩ : ∃ w8, w7.drew = w8 := ⟨_, rfl⟩
          have k8 : Below w5.heap.size w5 w8 := by rw [← hw8]; exact k7.drew
          have b78 : Below w7.heap.size w7 w8 := by rw [← hw8]; exact (Below.refl _ _).drew
          rw [hw8]
          clear hw8
          have hS8 : Hid (∀ u, Below w8.heap.size w8 u → u.cell? ⟨wo.heap.size, 0, none⟩ = some (.string K) ∧ u.cell? ⟨wo.heap.size + 1, 0, none⟩ = some (.int .i64 t) ∧ u.cell? ⟨wo.heap.size + 1, 1, none⟩ = some (.string V) ∧ u.cell? ⟨wo.heap.size + 1, 2, none⟩ = some (.bool G)) := Lib.hid fun u b => ⟨((BX5.below k8).below b).cell 0 rfl, ((BV5.below k8).below b).cell 0 rfl, ((BV5.below k8).below b).cell 1 rfl, ((BV5.below k8).below b).cell 2 rfl⟩
          have hS := hS8.out w8 (Below.refl _ _)
          have HS8 : Hid (∀ u, Below w8.heap.size w8 u → SrcOf u s7 0 LDc) := Lib.hid fun u b => (HS7.out.below b78).below b
          have HT8 : Hid (∀ u, Below w8.heap.size w8 u → SrcOf u (.slice none 0 0) 0 LTc) := Lib.hid fun u b => (HST.out.below k8).below b
          have hz8 : w5.heap.size ≤ w8.heap.size := k8.size
          clear HS7 k7 b78
          refine d_take (f := 30) (v := ?_) 1 rfl (by kernel_rfl) (fun _ _ _ h => h) (Or.inl ⟨by rfl, ?_⟩) hS ?_
          rotate_left
          · intro wx hx
            obtain ⟨x0, x1, x2, x3⟩ := hx
            first | (go_simp; done) | (go_simp; with_reducible rfl)
          simp only [Act.put, List.setIfInBounds_toArray]
          refine d_take (f := 30) (v := ?_) 2 rfl (by kernel_rfl) (fun _ _ _ h => h) (Or.inl ⟨by rfl, ?_⟩) hS ?_
          rotate_left
          · intro wx hx
            obtain ⟨x0, x1, x2, x3⟩ := hx
            first | (go_simp; done) | (go_simp; with_reducible rfl)
          simp only [Act.put]
          refine d_take (f := 30) (v := ?_) 3 rfl (by kernel_rfl) (fun _ _ _ h => h) (Or.inl ⟨by rfl, ?_⟩) hS ?_
          rotate_left
          · intro wx hx
            obtain ⟨x0, x1, x2, x3⟩ := hx
            first | (go_simp; done) | (go_simp; with_reducible rfl)
          simp only [Act.put]
          refine d_take (f := 30) (v := ?_) 5 rfl (by kernel_rfl) (fun _ _ _ h => h) (Or.inl ⟨by rfl, ?_⟩) hS ?_
          rotate_left
          · intro wx hx
            obtain ⟨x0, x1, x2, x3⟩ := hx
            first | (go_simp; done) | (go_simp; with_reducible rfl)
          simp only [Act.put]
          refine d_take (f := 30) (v := ?_) 6 rfl (by kernel_rfl) (fun _ _ _ h => h) (Or.inl ⟨by rfl, ?_⟩) hS ?_
          rotate_left
          · intro wx hx
            obtain ⟨x0, x1, x2, x3⟩ := hx
            first | (go_simp; done) | (go_simp; with_reducible rfl)
          simp only [Act.put]
          refine d_take (f := 30) (v := ?_) 7 rfl (by kernel_rfl) (fun _ _ _ h => h) (Or.inl ⟨by rfl, ?_⟩) hS ?_
          rotate_left
          · intro wx hx
            obtain ⟨x0, x1, x2, x3⟩ := hx
            first | (go_simp; done) | (go_simp; with_reducible rfl)
          simp only [Act.put]
          refine d_take (f := 30) (v := ?_) 12 rfl (by kernel_rfl) (fun _ _ _ h => h) (Or.inl ⟨by rfl, ?_⟩) hS ?_
          rotate_left
          · intro wx hx
            obtain ⟨x0, x1, x2, x3⟩ := hx
            first | (go_simp; done) | (go_simp; with_reducible rfl)
          simp only [Act.put]
          have kw8 : Below w8.heap.size w8 w8 := Below.refl _ _
          refine d_two 0 8 (by kernel_rfl) rfl rfl (fun KK hK => ?_) (fun KK hK => ?_)
          · skip
            go_simp
            generalize hA : World.alloc _ _ = u1
            have PE : u1.ownsRow w8.heap.size 57 2 (.slice (some ⟨w8.heap.size, 0, none⟩) 0 0) 0 [] := by rw [← hA]; exact made0 rfl (Nat.le_refl _)
            have bu1 : Below w8.heap.size w8 u1 := by rw [← hA]; exact below_new _ _
            have ku1 : Below w8.heap.size w8 u1 := below_after bu1 kw8
            have hzu1 : w8.heap.size ≤ u1.heap.size := ku1.size
            have hyu1 : w8.heap.size ≤ u1.heap.size := bu1.size
            have hEB : w8.heap.size < u1.heap.size := (PE.lt _ rfl).2
            clear hA
            refine hK.out _ _ (fun _ => hS8.out u1 ku1) ?_
            clear hK KK
            try simp only [Act.put, List.setIfInBounds_toArray, List.set_cons_zero, List.set_cons_succ]
            refine d_two 4 8 (by kernel_rfl) rfl rfl (fun KK hK => ?_) (fun KK hK => ?_)
            · skip
              obtain ⟨su2, u2, hrun, Pu2, gu2, kku2⟩ := run_append_cells u1 33 w8.heap.size (by first | exact Nat.le_refl _ | omega) PE (HT8.out _ ku1) (by omega)
              refine step_append_eq rfl _ _ 33 rfl _ _ (by simp [Act.eval]) (by simp [Act.eval]) hrun ?_
              have ku2 : Below w8.heap.size w8 u2 := ku1.trans (kku2.mono (by first | exact Nat.le_refl _ | omega))
              have hzu2 : w8.heap.size ≤ u2.heap.size := ku2.size
              have hyu2 : u1.heap.size ≤ u2.heap.size := kku2.size
              clear hrun
              refine hK.out _ _ (fun _ => hS8.out u2 ku2) ?_
              clear hK KK
              try simp only [Act.put, List.setIfInBounds_toArray]
              have gEu2 : u1.grownBy u2 (some w8.heap.size) := gu2
              have PL := Pu2
              clear Pu2 PE
              refine d_step 8 (by kernel_rfl) rfl (fun KK hK => ?_)
              go_simp
              generalize hA : World.alloc _ _ = u3
              have XV : Blk u3 u2.heap.size 77 #[.int .i64 t, .string V, .bool G] := by rw [← hA]; exact Blk.new _ _ _
              have bu3 : Below u2.heap.size u2 u3 := by rw [← hA]; exact below_new _ _
              have ku3 : Below w8.heap.size w8 u3 := below_after bu3 ku2
              have hzu3 : w8.heap.size ≤ u3.heap.size := ku3.size
              have hyu3 : u2.heap.size ≤ u3.heap.size := bu3.size
              have hVB : u2.heap.size < u3.heap.size := XV.lt
              clear hA
              refine hK.out _ _ (fun _ => hS8.out u3 ku3) ?_
              clear hK KK
              try simp only [Act.put, List.setIfInBounds_toArray, List.set_cons_zero, List.set_cons_succ]
              have hS := hS8.out _ ku3
              refine d_takeY (v := ?_) 9 rfl (by kernel_rfl) (fun _ _ _ h => h) (Or.inl ⟨by rfl, ?_⟩) hS ?_
              rotate_left
              · intro wx _
                first | (go_simp; done) | (go_simp; with_reducible rfl)
              simp only [Act.put, List.setIfInBounds_toArray]
              clear hS
              replace PL := own_below PL bu3
              refine d_step 10 (by kernel_rfl) rfl (fun KK hK => ?_)
              go_simp
              generalize hA : World.alloc _ _ = u4
              have XB : Blk u4 u3.heap.size 57 #[.string K, .slice (some ⟨u2.heap.size, 0, none⟩) 1 1] := by rw [← hA]; exact Blk.new _ _ _
              have bu4 : Below u3.heap.size u3 u4 := by rw [← hA]; exact below_new _ _
              have ku4 : Below w8.heap.size w8 u4 := below_after bu4 ku3
              have hzu4 : w8.heap.size ≤ u4.heap.size := ku4.size
              have hyu4 : u3.heap.size ≤ u4.heap.size := bu4.size
              have hBB : u3.heap.size < u4.heap.size := XB.lt
              clear hA
              refine hK.out _ _ (fun _ => hS8.out u4 ku4) ?_
              clear hK KK
              try simp only [Act.put, List.setIfInBounds_toArray, List.set_cons_zero, List.set_cons_succ]
              replace PL := own_below PL bu4
              replace XV := XV.below bu4
              refine d_step 11 (by kernel_rfl) rfl (fun KK hK => ?_)
              obtain ⟨swy, wy, hrun, Pwy, gwy, kkwy⟩ := run_append_cells u4 33 w8.heap.size (by first | exact Nat.le_refl _ | omega) PL (src_box XB (by simp [Value.oneCell'])) (by omega)
              refine step_append_eq rfl _ _ 33 rfl _ _ (by simp [Act.eval]) (by simp [Act.eval]) hrun ?_
              have kwy : Below w8.heap.size w8 wy := ku4.trans (kkwy.mono (by first | exact Nat.le_refl _ | omega))
              have hzwy : w8.heap.size ≤ wy.heap.size := kwy.size
              have hywy : u4.heap.size ≤ wy.heap.size := kkwy.size
              clear hrun
              refine hK.out _ _ (fun _ => hS8.out wy kwy) ?_
              clear hK KK
              try simp only [Act.put, List.setIfInBounds_toArray]
              have XV3 := XV.of (gwy.block _ XV.lt (row_ne PL XV (by decide)))
              refine d_step 13 (by kernel_rfl) rfl (fun KK hK => ?_)
              obtain ⟨swz, wz, hrun, Pwz, gwz, kkwz⟩ := run_append_cells wy 33 w8.heap.size (by first | exact Nat.le_refl _ | omega) Pwy (HS8.out _ kwy) (by omega)
              refine step_append_eq rfl _ _ 33 rfl _ _ (by simp [Act.eval]) (by simp [Act.eval]) hrun ?_
              have kwz : Below w8.heap.size w8 wz := kwy.trans (kkwz.mono (by first | exact Nat.le_refl _ | omega))
              have hzwz : w8.heap.size ≤ wz.heap.size := kwz.size
              have hywz : wy.heap.size ≤ wz.heap.size := kkwz.size
              clear hrun
              refine hK.out _ _ (fun _ => hS8.out wz kwz) ?_
              clear hK KK
              try simp only [Act.put]
              have XV4 := XV3.of (gwz.block _ XV3.lt (row_ne Pwy XV3 (by decide)))
              have HP9 : Hid (∃ c9, PartC Cod.cellR wz w.heap.size 57 swz (0 + 1) (putC t x mm) c9) := Lib.hid (ins_fresh HP5.out HN.out hkN hbw5 hz8 (by omega) HE.out hLT hLD (Nat.zero_add 0) XV4 Hver.out z0 Pwz (below_after kwz k8) (by omega))
              have bw9 : Below w.heap.size w wz := below_after (below_after kwz k8) Hb5
              clear XV XV3 XV4 XB PL Pwy Pwz gwy gwz kkwy kkwz
              refine d_step 14 (by kernel_rfl) rfl (fun KK hK => ?_)
              go_simp
              refine hK.out _ _ (fun h => by exact absurd h (by decide)) ?_
              clear hK KK
              refine d_done (by kernel_rfl) ?_ _
              try simp only [Act.put, List.setIfInBounds_toArray, List.set_cons_zero, List.set_cons_succ]
              obtain ⟨c9, hP9⟩ := HP9.out
              have HP10 := Lib.hid hP9
              clear hP9 HP9
              go_wp2
              go_roundw
              case rel => exact ⟨ki + 1, _, putC t x mm, c9, 0 + 1, rfl, by go_num, by omega, Hf2, HlenN, HP10, bw9⟩
              case measure => simp [intOf]; omega
            · skip
              go_simp
              generalize hA : World.alloc _ _ = u5
              have XV : Blk u5 u1.heap.size 77 #[.int .i64 t, .string V, .bool G] := by rw [← hA]; exact Blk.new _ _ _
              have bu5 : Below u1.heap.size u1 u5 := by rw [← hA]; exact below_new _ _
              have ku5 : Below w8.heap.size w8 u5 := below_after bu5 ku1
              have hzu5 : w8.heap.size ≤ u5.heap.size := ku5.size
              have hyu5 : u1.heap.size ≤ u5.heap.size := bu5.size
              have hVB : u1.heap.size < u5.heap.size := XV.lt
              clear hA
              refine hK.out _ _ (fun _ => hS8.out u5 ku5) ?_
              clear hK KK
              try simp only [Act.put, List.setIfInBounds_toArray, List.set_cons_zero, List.set_cons_succ]
              have hS := hS8.out _ ku5
              refine d_takeY (v := ?_) 9 rfl (by kernel_rfl) (fun _ _ _ h => h) (Or.inl ⟨by rfl, ?_⟩) hS ?_
              rotate_left
              · intro wx _
                first | (go_simp; done) | (go_simp; with_reducible rfl)
              simp only [Act.put, List.setIfInBounds_toArray]
              clear hS
              replace PE := own_below PE bu5
              refine d_two 4 10 (by kernel_rfl) rfl rfl (fun KK hK => ?_) (fun KK hK => ?_)
              · skip
                obtain ⟨su6, u6, hrun, Pu6, gu6, kku6⟩ := run_append_cells u5 33 w8.heap.size (by first | exact Nat.le_refl _ | omega) PE (HT8.out _ ku5) (by omega)
                refine step_append_eq rfl _ _ 33 rfl _ _ (by simp [Act.eval]) (by simp [Act.eval]) hrun ?_
                have ku6 : Below w8.heap.size w8 u6 := ku5.trans (kku6.mono (by first | exact Nat.le_refl _ | omega))
                have hzu6 : w8.heap.size ≤ u6.heap.size := ku6.size
                have hyu6 : u5.heap.size ≤ u6.heap.size := kku6.size
                clear hrun
                refine hK.out _ _ (fun _ => hS8.out u6 ku6) ?_
                clear hK KK
                try simp only [Act.put]
                have gEu6 : u5.grownBy u6 (some w8.heap.size) := gu6
                have PL := Pu6
                clear Pu6 PE
                replace XV := XV.grown gEu6 (by omega)
                refine d_step 10 (by kernel_rfl) rfl (fun KK hK => ?_)
                go_simp
                generalize hA : World.alloc _ _ = u7
                have XB : Blk u7 u6.heap.size 57 #[.string K, .slice (some ⟨u1.heap.size, 0, none⟩) 1 1] := by rw [← hA]; exact Blk.new _ _ _
                have bu7 : Below u6.heap.size u6 u7 := by rw [← hA]; exact below_new _ _
                have ku7 : Below w8.heap.size w8 u7 := below_after bu7 ku6
                have hzu7 : w8.heap.size ≤ u7.heap.size := ku7.size
                have hyu7 : u6.heap.size ≤ u7.heap.size := bu7.size
                have hBB : u6.heap.size < u7.heap.size := XB.lt
                clear hA
                refine hK.out _ _ (fun _ => hS8.out u7 ku7) ?_
                clear hK KK
                try simp only [Act.put, List.setIfInBounds_toArray, List.set_cons_zero, List.set_cons_succ]
                replace PL := own_below PL bu7
                replace XV := XV.below bu7
                refine d_step 11 (by kernel_rfl) rfl (fun KK hK => ?_)
                obtain ⟨swy, wy, hrun, Pwy, gwy, kkwy⟩ := run_append_cells u7 33 w8.heap.size (by first | exact Nat.le_refl _ | omega) PL (src_box XB (by simp [Value.oneCell'])) (by omega)
                refine step_append_eq rfl _ _ 33 rfl _ _ (by simp [Act.eval]) (by simp [Act.eval]) hrun ?_
                have kwy : Below w8.heap.size w8 wy := ku7.trans (kkwy.mono (by first | exact Nat.le_refl _ | omega))
                have hzwy : w8.heap.size ≤ wy.heap.size := kwy.size
                have hywy : u7.heap.size ≤ wy.heap.size := kkwy.size
                clear hrun
                refine hK.out _ _ (fun _ => hS8.out wy kwy) ?_
                clear hK KK
                try simp only [Act.put, List.setIfInBounds_toArray]
                have XV3 := XV.of (gwy.block _ XV.lt (row_ne PL XV (by decide)))
                refine d_step 13 (by kernel_rfl) rfl (fun KK hK => ?_)
                obtain ⟨swz, wz, hrun, Pwz, gwz, kkwz⟩ := run_append_cells wy 33 w8.heap.size (by first | exact Nat.le_refl _ | omega) Pwy (HS8.out _ kwy) (by omega)
                refine step_append_eq rfl _ _ 33 rfl _ _ (by simp [Act.eval]) (by simp [Act.eval]) hrun ?_
                have kwz : Below w8.heap.size w8 wz := kwy.trans (kkwz.mono (by first | exact Nat.le_refl _ | omega))
                have hzwz : w8.heap.size ≤ wz.heap.size := kwz.size
                have hywz : wy.heap.size ≤ wz.heap.size := kkwz.size
                clear hrun
                refine hK.out _ _ (fun _ => hS8.out wz kwz) ?_
                clear hK KK
                try simp only [Act.put]
                have XV4 := XV3.of (gwz.block _ XV3.lt (row_ne Pwy XV3 (by decide)))
                have HP9 : Hid (∃ c9, PartC Cod.cellR wz w.heap.size 57 swz (0 + 1) (putC t x mm) c9) := Lib.hid (ins_fresh HP5.out HN.out hkN hbw5 hz8 (by omega) HE.out hLT hLD (Nat.zero_add 0) XV4 Hver.out z0 Pwz (below_after kwz k8) (by omega))
                have bw9 : Below w.heap.size w wz := below_after (below_after kwz k8) Hb5
                clear XV XV3 XV4 XB PL Pwy Pwz gwy gwz kkwy kkwz
                refine d_step 14 (by kernel_rfl) rfl (fun KK hK => ?_)
                go_simp
                refine hK.out _ _ (fun h => by exact absurd h (by decide)) ?_
                clear hK KK
                refine d_done (by kernel_rfl) ?_ _
                try simp only [Act.put, List.setIfInBounds_toArray, List.set_cons_zero, List.set_cons_succ]
                obtain ⟨c9, hP9⟩ := HP9.out
                have HP10 := Lib.hid hP9
                clear hP9 HP9
                go_wp2
                go_roundw
                case rel => exact ⟨ki + 1, _, putC t x mm, c9, 0 + 1, rfl, by go_num, by omega, Hf2, HlenN, HP10, bw9⟩
                case measure => simp [intOf]; omega
              · skip
                go_simp
                generalize hA : World.alloc _ _ = u8
                have XB : Blk u8 u5.heap.size 57 #[.string K, .slice (some ⟨u1.heap.size, 0, none⟩) 1 1] := by rw [← hA]; exact Blk.new _ _ _
                have bu8 : Below u5.heap.size u5 u8 := by rw [← hA]; exact below_new _ _
                have ku8 : Below w8.heap.size w8 u8 := below_after bu8 ku5
                have hzu8 : w8.heap.size ≤ u8.heap.size := ku8.size
                have hyu8 : u5.heap.size ≤ u8.heap.size := bu8.size
                have hBB : u5.heap.size < u8.heap.size := XB.lt
                clear hA
                refine hK.out _ _ (fun _ => hS8.out u8 ku8) ?_
                clear hK KK
                try simp only [Act.put, List.setIfInBounds_toArray, List.set_cons_zero, List.set_cons_succ]
                replace PE := own_below PE bu8
                replace XV := XV.below bu8
                refine d_step 4 (by kernel_rfl) rfl (fun KK hK => ?_)
                obtain ⟨su9, u9, hrun, Pu9, gu9, kku9⟩ := run_append_cells u8 33 w8.heap.size (by first | exact Nat.le_refl _ | omega) PE (HT8.out _ ku8) (by omega)
                refine step_append_eq rfl _ _ 33 rfl _ _ (by simp [Act.eval]) (by simp [Act.eval]) hrun ?_
                have ku9 : Below w8.heap.size w8 u9 := ku8.trans (kku9.mono (by first | exact Nat.le_refl _ | omega))
                have hzu9 : w8.heap.size ≤ u9.heap.size := ku9.size
                have hyu9 : u8.heap.size ≤ u9.heap.size := kku9.size
                clear hrun
                refine hK.out _ _ (fun _ => hS8.out u9 ku9) ?_
                clear hK KK
                try simp only [Act.put, List.setIfInBounds_toArray]
                have gEu9 : u8.grownBy u9 (some w8.heap.size) := gu9
                have PL := Pu9
                clear Pu9 PE
                replace XV := XV.grown gEu9 (by omega)
                replace XB := XB.grown gEu9 (by omega)
                refine d_step 11 (by kernel_rfl) rfl (fun KK hK => ?_)
                obtain ⟨swy, wy, hrun, Pwy, gwy, kkwy⟩ := run_append_cells u9 33 w8.heap.size (by first | exact Nat.le_refl _ | omega) PL (src_box XB (by simp [Value.oneCell'])) (by omega)
                refine step_append_eq rfl _ _ 33 rfl _ _ (by simp [Act.eval]) (by simp [Act.eval]) hrun ?_
                have kwy : Below w8.heap.size w8 wy := ku9.trans (kkwy.mono (by first | exact Nat.le_refl _ | omega))
                have hzwy : w8.heap.size ≤ wy.heap.size := kwy.size
                have hywy : u9.heap.size ≤ wy.heap.size := kkwy.size
                clear hrun
                refine hK.out _ _ (fun _ => hS8.out wy kwy) ?_
                clear hK KK
                try simp only [Act.put]
                have XV3 := XV.of (gwy.block _ XV.lt (row_ne PL XV (by decide)))
                refine d_step 13 (by kernel_rfl) rfl (fun KK hK => ?_)
                obtain ⟨swz, wz, hrun, Pwz, gwz, kkwz⟩ := run_append_cells wy 33 w8.heap.size (by first | exact Nat.le_refl _ | omega) Pwy (HS8.out _ kwy) (by omega)
                refine step_append_eq rfl _ _ 33 rfl _ _ (by simp [Act.eval]) (by simp [Act.eval]) hrun ?_
                have kwz : Below w8.heap.size w8 wz := kwy.trans (kkwz.mono (by first | exact Nat.le_refl _ | omega))
                have hzwz : w8.heap.size ≤ wz.heap.size := kwz.size
                have hywz : wy.heap.size ≤ wz.heap.size := kkwz.size
                clear hrun
                refine hK.out _ _ (fun _ => hS8.out wz kwz) ?_
                clear hK KK
                try simp only [Act.put]
                have XV4 := XV3.of (gwz.block _ XV3.lt (row_ne Pwy XV3 (by decide)))
                have HP9 : Hid (∃ c9, PartC Cod.cellR wz w.heap.size 57 swz (0 + 1) (putC t x mm) c9) := Lib.hid (ins_fresh HP5.out HN.out hkN hbw5 hz8 (by omega) HE.out hLT hLD (Nat.zero_add 0) XV4 Hver.out z0 Pwz (below_after kwz k8) (by omega))
                have bw9 : Below w.heap.size w wz := below_after (below_after kwz k8) Hb5
                clear XV XV3 XV4 XB PL Pwy Pwz gwy gwz kkwy kkwz
                refine d_step 14 (by kernel_rfl) rfl (fun KK hK => ?_)
                go_simp
                refine hK.out _ _ (fun h => by exact absurd h (by decide)) ?_
                clear hK KK
                refine d_done (by kernel_rfl) ?_ _
                try simp only [Act.put, List.setIfInBounds_toArray, List.set_cons_zero, List.set_cons_succ]
                obtain ⟨c9, hP9⟩ := HP9.out
                have HP10 := Lib.hid hP9
                clear hP9 HP9
                go_wp2
                go_roundw
                case rel => exact ⟨ki + 1, _, putC t x mm, c9, 0 + 1, rfl, by go_num, by omega, Hf2, HlenN, HP10, bw9⟩
                case measure => simp [intOf]; omega
          · skip
            go_simp
            generalize hA : World.alloc _ _ = u10
            have XV : Blk u10 w8.heap.size 77 #[.int .i64 t, .string V, .bool G] := by rw [← hA]; exact Blk.new _ _ _
            have bu10 : Below w8.heap.size w8 u10 := by rw [← hA]; exact below_new _ _
            have ku10 : Below w8.heap.size w8 u10 := below_after bu10 kw8
            have hzu10 : w8.heap.size ≤ u10.heap.size := ku10.size
            have hyu10 : w8.heap.size ≤ u10.heap.size := bu10.size
            have hVB : w8.heap.size < u10.heap.size := XV.lt
            clear hA
            refine hK.out _ _ (fun _ => hS8.out u10 ku10) ?_
            clear hK KK
            try simp only [Act.put, List.setIfInBounds_toArray, List.set_cons_zero, List.set_cons_succ]
            have hS := hS8.out _ ku10
            refine d_takeY (v := ?_) 9 rfl (by kernel_rfl) (fun _ _ _ h => h) (Or.inl ⟨by rfl, ?_⟩) hS ?_
            rotate_left
            · intro wx _
              first | (go_simp; done) | (go_simp; with_reducible rfl)
            simp only [Act.put, List.setIfInBounds_toArray]
            clear hS
            refine d_two 0 10 (by kernel_rfl) rfl rfl (fun KK hK => ?_) (fun KK hK => ?_)
            · skip
              go_simp
              generalize hA : World.alloc _ _ = u11
              have PE : u11.ownsRow u10.heap.size 57 2 (.slice (some ⟨u10.heap.size, 0, none⟩) 0 0) 0 [] := by rw [← hA]; exact made0 rfl (Nat.le_refl _)
              have bu11 : Below u10.heap.size u10 u11 := by rw [← hA]; exact below_new _ _
              have ku11 : Below w8.heap.size w8 u11 := below_after bu11 ku10
              have hzu11 : w8.heap.size ≤ u11.heap.size := ku11.size
              have hyu11 : u10.heap.size ≤ u11.heap.size := bu11.size
              have hEB : u10.heap.size < u11.heap.size := (PE.lt _ rfl).2
              clear hA
              refine hK.out _ _ (fun _ => hS8.out u11 ku11) ?_
              clear hK KK
              try simp only [Act.put, List.setIfInBounds_toArray, List.set_cons_zero, List.set_cons_succ]
              replace XV := XV.below bu11
              refine d_two 4 10 (by kernel_rfl) rfl rfl (fun KK hK => ?_) (fun KK hK => ?_)
              · skip
                obtain ⟨su12, u12, hrun, Pu12, gu12, kku12⟩ := run_append_cells u11 33 u10.heap.size (by first | exact Nat.le_refl _ | omega) PE (HT8.out _ ku11) (by omega)
                refine step_append_eq rfl _ _ 33 rfl _ _ (by simp [Act.eval]) (by simp [Act.eval]) hrun ?_
                have ku12 : Below w8.heap.size w8 u12 := ku11.trans (kku12.mono (by first | exact Nat.le_refl _ | omega))
                have hzu12 : w8.heap.size ≤ u12.heap.size := ku12.size
                have hyu12 : u11.heap.size ≤ u12.heap.size := kku12.size
                clear hrun
                refine hK.out _ _ (fun _ => hS8.out u12 ku12) ?_
                clear hK KK
                try simp only [Act.put, List.setIfInBounds_toArray]
                have gEu12 : u11.grownBy u12 (some u10.heap.size) := gu12
                have PL := Pu12
                clear Pu12 PE
                replace XV := XV.grown gEu12 (by omega)
                refine d_step 10 (by kernel_rfl) rfl (fun KK hK => ?_)
                go_simp
                generalize hA : World.alloc _ _ = u13
                have XB : Blk u13 u12.heap.size 57 #[.string K, .slice (some ⟨w8.heap.size, 0, none⟩) 1 1] := by rw [← hA]; exact Blk.new _ _ _
                have bu13 : Below u12.heap.size u12 u13 := by rw [← hA]; exact below_new _ _
                have ku13 : Below w8.heap.size w8 u13 := below_after bu13 ku12
                have hzu13 : w8.heap.size ≤ u13.heap.size := ku13.size
                have hyu13 : u12.heap.size ≤ u13.heap.size := bu13.size
                have hBB : u12.heap.size < u13.heap.size := XB.lt
                clear hA
                refine hK.out _ _ (fun _ => hS8.out u13 ku13) ?_
                clear hK KK
                try simp only [Act.put, List.setIfInBounds_toArray, List.set_cons_zero, List.set_cons_succ]
                replace PL := own_below PL bu13
                replace XV := XV.below bu13
                refine d_step 11 (by kernel_rfl) rfl (fun KK hK => ?_)
                obtain ⟨swy, wy, hrun, Pwy, gwy, kkwy⟩ := run_append_cells u13 33 u10.heap.size (by first | exact Nat.le_refl _ | omega) PL (src_box XB (by simp [Value.oneCell'])) (by omega)
                refine step_append_eq rfl _ _ 33 rfl _ _ (by simp [Act.eval]) (by simp [Act.eval]) hrun ?_
                have kwy : Below w8.heap.size w8 wy := ku13.trans (kkwy.mono (by first | exact Nat.le_refl _ | omega))
                have hzwy : w8.heap.size ≤ wy.heap.size := kwy.size
                have hywy : u13.heap.size ≤ wy.heap.size := kkwy.size
                clear hrun
                refine hK.out _ _ (fun _ => hS8.out wy kwy) ?_
                clear hK KK
                try simp only [Act.put, List.setIfInBounds_toArray]
                have XV3 := XV.of (gwy.block _ XV.lt (row_ne PL XV (by decide)))
                refine d_step 13 (by kernel_rfl) rfl (fun KK hK => ?_)
                obtain ⟨swz, wz, hrun, Pwz, gwz, kkwz⟩ := run_append_cells wy 33 u10.heap.size (by first | exact Nat.le_refl _ | omega) Pwy (HS8.out _ kwy) (by omega)
                refine step_append_eq rfl _ _ 33 rfl _ _ (by simp [Act.eval]) (by simp [Act.eval]) hrun ?_
                have kwz : Below w8.heap.size w8 wz := kwy.trans (kkwz.mono (by first | exact Nat.le_refl _ | omega))
                have hzwz : w8.heap.size ≤ wz.heap.size := kwz.size
                have hywz : wy.heap.size ≤ wz.heap.size := kkwz.size
                clear hrun
                refine hK.out _ _ (fun _ => hS8.out wz kwz) ?_
                clear hK KK
                try simp only [Act.put]
                have XV4 := XV3.of (gwz.block _ XV3.lt (row_ne Pwy XV3 (by decide)))
                have HP9 : Hid (∃ c9, PartC Cod.cellR wz w.heap.size 57 swz (0 + 1) (putC t x mm) c9) := Lib.hid (ins_fresh HP5.out HN.out hkN hbw5 hz8 (by omega) HE.out hLT hLD (Nat.zero_add 0) XV4 Hver.out z0 Pwz (below_after kwz k8) (by omega))
                have bw9 : Below w.heap.size w wz := below_after (below_after kwz k8) Hb5
                clear XV XV3 XV4 XB PL Pwy Pwz gwy gwz kkwy kkwz
                refine d_step 14 (by kernel_rfl) rfl (fun KK hK => ?_)
                go_simp
                refine hK.out _ _ (fun h => by exact absurd h (by decide)) ?_
                clear hK KK
                refine d_done (by kernel_rfl) ?_ _
                try simp only [Act.put, List.setIfInBounds_toArray, List.set_cons_zero, List.set_cons_succ]
                obtain ⟨c9, hP9⟩ := HP9.out
                have HP10 := Lib.hid hP9
                clear hP9 HP9
                go_wp2
                go_roundw
                case rel => exact ⟨ki + 1, _, putC t x mm, c9, 0 + 1, rfl, by go_num, by omega, Hf2, HlenN, HP10, bw9⟩
                case measure => simp [intOf]; omega
              · skip
                go_simp
                generalize hA : World.alloc _ _ = u14
                have XB : Blk u14 u11.heap.size 57 #[.string K, .slice (some ⟨w8.heap.size, 0, none⟩) 1 1] := by rw [← hA]; exact Blk.new _ _ _
                have bu14 : Below u11.heap.size u11 u14 := by rw [← hA]; exact below_new _ _
                have ku14 : Below w8.heap.size w8 u14 := below_after bu14 ku11
                have hzu14 : w8.heap.size ≤ u14.heap.size := ku14.size
                have hyu14 : u11.heap.size ≤ u14.heap.size := bu14.size
                have hBB : u11.heap.size < u14.heap.size := XB.lt
                clear hA
                refine hK.out _ _ (fun _ => hS8.out u14 ku14) ?_
                clear hK KK
                try simp only [Act.put, List.setIfInBounds_toArray, List.set_cons_zero, List.set_cons_succ]
                replace PE := own_below PE bu14
                replace XV := XV.below bu14
                refine d_step 4 (by kernel_rfl) rfl (fun KK hK => ?_)
                obtain ⟨su15, u15, hrun, Pu15, gu15, kku15⟩ := run_append_cells u14 33 u10.heap.size (by first | exact Nat.le_refl _ | omega) PE (HT8.out _ ku14) (by omega)
                refine step_append_eq rfl _ _ 33 rfl _ _ (by simp [Act.eval]) (by simp [Act.eval]) hrun ?_
                have ku15 : Below w8.heap.size w8 u15 := ku14.trans (kku15.mono (by first | exact Nat.le_refl _ | omega))
                have hzu15 : w8.heap.size ≤ u15.heap.size := ku15.size
                have hyu15 : u14.heap.size ≤ u15.heap.size := kku15.size
                clear hrun
                refine hK.out _ _ (fun _ => hS8.out u15 ku15) ?_
                clear hK KK
                try simp only [Act.put, List.setIfInBounds_toArray]
                have gEu15 : u14.grownBy u15 (some u10.heap.size) := gu15
                have PL := Pu15
                clear Pu15 PE
                replace XV := XV.grown gEu15 (by omega)
                replace XB := XB.grown gEu15 (by omega)
                refine d_step 11 (by kernel_rfl) rfl (fun KK hK => ?_)
                obtain ⟨swy, wy, hrun, Pwy, gwy, kkwy⟩ := run_append_cells u15 33 u10.heap.size (by first | exact Nat.le_refl _ | omega) PL (src_box XB (by simp [Value.oneCell'])) (by omega)
                refine step_append_eq rfl _ _ 33 rfl _ _ (by simp [Act.eval]) (by simp [Act.eval]) hrun ?_
                have kwy : Below w8.heap.size w8 wy := ku15.trans (kkwy.mono (by first | exact Nat.le_refl _ | omega))
                have hzwy : w8.heap.size ≤ wy.heap.size := kwy.size
                have hywy : u15.heap.size ≤ wy.heap.size := kkwy.size
                clear hrun
                refine hK.out _ _ (fun _ => hS8.out wy kwy) ?_
                clear hK KK
                try simp only [Act.put]
                have XV3 := XV.of (gwy.block _ XV.lt (row_ne PL XV (by decide)))
                refine d_step 13 (by kernel_rfl) rfl (fun KK hK => ?_)
                obtain ⟨swz, wz, hrun, Pwz, gwz, kkwz⟩ := run_append_cells wy 33 u10.heap.size (by first | exact Nat.le_refl _ | omega) Pwy (HS8.out _ kwy) (by omega)
                refine step_append_eq rfl _ _ 33 rfl _ _ (by simp [Act.eval]) (by simp [Act.eval]) hrun ?_
                have kwz : Below w8.heap.size w8 wz := kwy.trans (kkwz.mono (by first | exact Nat.le_refl _ | omega))
                have hzwz : w8.heap.size ≤ wz.heap.size := kwz.size
                have hywz : wy.heap.size ≤ wz.heap.size := kkwz.size
                clear hrun
                refine hK.out _ _ (fun _ => hS8.out wz kwz) ?_
                clear hK KK
                try simp only [Act.put]
                have XV4 := XV3.of (gwz.block _ XV3.lt (row_ne Pwy XV3 (by decide)))
                have HP9 : Hid (∃ c9, PartC Cod.cellR wz w.heap.size 57 swz (0 + 1) (putC t x mm) c9) := Lib.hid (ins_fresh HP5.out HN.out hkN hbw5 hz8 (by omega) HE.out hLT hLD (Nat.zero_add 0) XV4 Hver.out z0 Pwz (below_after kwz k8) (by omega))
                have bw9 : Below w.heap.size w wz := below_after (below_after kwz k8) Hb5
                clear XV XV3 XV4 XB PL Pwy Pwz gwy gwz kkwy kkwz
                refine d_step 14 (by kernel_rfl) rfl (fun KK hK => ?_)
                go_simp
                refine hK.out _ _ (fun h => by exact absurd h (by decide)) ?_
                clear hK KK
                refine d_done (by kernel_rfl) ?_ _
                try simp only [Act.put, List.setIfInBounds_toArray, List.set_cons_zero, List.set_cons_succ]
                obtain ⟨c9, hP9⟩ := HP9.out
                have HP10 := Lib.hid hP9
                clear hP9 HP9
                go_wp2
                go_roundw
                case rel => exact ⟨ki + 1, _, putC t x mm, c9, 0 + 1, rfl, by go_num, by omega, Hf2, HlenN, HP10, bw9⟩
                case measure => simp [intOf]; omega
            · skip
              go_simp
              generalize hA : World.alloc _ _ = u16
              have XB : Blk u16 u10.heap.size 57 #[.string K, .slice (some ⟨w8.heap.size, 0, none⟩) 1 1] := by rw [← hA]; exact Blk.new _ _ _
              have bu16 : Below u10.heap.size u10 u16 := by rw [← hA]; exact below_new _ _
              have ku16 : Below w8.heap.size w8 u16 := below_after bu16 ku10
              have hzu16 : w8.heap.size ≤ u16.heap.size := ku16.size
              have hyu16 : u10.heap.size ≤ u16.heap.size := bu16.size
              have hBB : u10.heap.size < u16.heap.size := XB.lt
              clear hA
              refine hK.out _ _ (fun _ => hS8.out u16 ku16) ?_
              clear hK KK
              try simp only [Act.put, List.setIfInBounds_toArray, List.set_cons_zero, List.set_cons_succ]
              replace XV := XV.below bu16
              refine d_step 0 (by kernel_rfl) rfl (fun KK hK => ?_)
              go_simp
              generalize hA : World.alloc _ _ = u17
              have PE : u17.ownsRow u16.heap.size 57 2 (.slice (some ⟨u16.heap.size, 0, none⟩) 0 0) 0 [] := by rw [← hA]; exact made0 rfl (Nat.le_refl _)
              have bu17 : Below u16.heap.size u16 u17 := by rw [← hA]; exact below_new _ _
              have ku17 : Below w8.heap.size w8 u17 := below_after bu17 ku16
              have hzu17 : w8.heap.size ≤ u17.heap.size := ku17.size
              have hyu17 : u16.heap.size ≤ u17.heap.size := bu17.size
              have hEB : u16.heap.size < u17.heap.size := (PE.lt _ rfl).2
              clear hA
              refine hK.out _ _ (fun _ => hS8.out u17 ku17) ?_
              clear hK KK
              try simp only [Act.put, List.setIfInBounds_toArray, List.set_cons_zero, List.set_cons_succ]
              replace XV := XV.below bu17
              replace XB := XB.below bu17
              refine d_step 4 (by kernel_rfl) rfl (fun KK hK => ?_)
              obtain ⟨su18, u18, hrun, Pu18, gu18, kku18⟩ := run_append_cells u17 33 u16.heap.size (by first | exact Nat.le_refl _ | omega) PE (HT8.out _ ku17) (by omega)
              refine step_append_eq rfl _ _ 33 rfl _ _ (by simp [Act.eval]) (by simp [Act.eval]) hrun ?_
              have ku18 : Below w8.heap.size w8 u18 := ku17.trans (kku18.mono (by first | exact Nat.le_refl _ | omega))
              have hzu18 : w8.heap.size ≤ u18.heap.size := ku18.size
              have hyu18 : u17.heap.size ≤ u18.heap.size := kku18.size
              clear hrun
              refine hK.out _ _ (fun _ => hS8.out u18 ku18) ?_
              clear hK KK
              try simp only [Act.put, List.setIfInBounds_toArray]
              have gEu18 : u17.grownBy u18 (some u16.heap.size) := gu18
              have PL := Pu18
              clear Pu18 PE
              replace XV := XV.grown gEu18 (by omega)
              replace XB := XB.grown gEu18 (by omega)
              refine d_step 11 (by kernel_rfl) rfl (fun KK hK => ?_)
              obtain ⟨swy, wy, hrun, Pwy, gwy, kkwy⟩ := run_append_cells u18 33 u16.heap.size (by first | exact Nat.le_refl _ | omega) PL (src_box XB (by simp [Value.oneCell'])) (by omega)
              refine step_append_eq rfl _ _ 33 rfl _ _ (by simp [Act.eval]) (by simp [Act.eval]) hrun ?_
              have kwy : Below w8.heap.size w8 wy := ku18.trans (kkwy.mono (by first | exact Nat.le_refl _ | omega))
              have hzwy : w8.heap.size ≤ wy.heap.size := kwy.size
              have hywy : u18.heap.size ≤ wy.heap.size := kkwy.size
              clear hrun
              refine hK.out _ _ (fun _ => hS8.out wy kwy) ?_
              clear hK KK
              try simp only [Act.put]
              have XV3 := XV.of (gwy.block _ XV.lt (row_ne PL XV (by decide)))
              refine d_step 13 (by kernel_rfl) rfl (fun KK hK => ?_)
              obtain ⟨swz, wz, hrun, Pwz, gwz, kkwz⟩ := run_append_cells wy 33 u16.heap.size (by first | exact Nat.le_refl _ | omega) Pwy (HS8.out _ kwy) (by omega)
              refine step_append_eq rfl _ _ 33 rfl _ _ (by simp [Act.eval]) (by simp [Act.eval]) hrun ?_
              have kwz : Below w8.heap.size w8 wz := kwy.trans (kkwz.mono (by first | exact Nat.le_refl _ | omega))
              have hzwz : w8.heap.size ≤ wz.heap.size := kwz.size
              have hywz : wy.heap.size ≤ wz.heap.size := kkwz.size
              clear hrun
              refine hK.out _ _ (fun _ => hS8.out wz kwz) ?_
              clear hK KK
              try simp only [Act.put]
              have XV4 := XV3.of (gwz.block _ XV3.lt (row_ne Pwy XV3 (by decide)))
              have HP9 : Hid (∃ c9, PartC Cod.cellR wz w.heap.size 57 swz (0 + 1) (putC t x mm) c9) := Lib.hid (ins_fresh HP5.out HN.out hkN hbw5 hz8 (by omega) HE.out hLT hLD (Nat.zero_add 0) XV4 Hver.out z0 Pwz (below_after kwz k8) (by omega))
              have bw9 : Below w.heap.size w wz := below_after (below_after kwz k8) Hb5
              clear XV XV3 XV4 XB PL Pwy Pwz gwy gwz kkwy kkwz
              refine d_step 14 (by kernel_rfl) rfl (fun KK hK => ?_)
              go_simp
              refine hK.out _ _ (fun h => by exact absurd h (by decide)) ?_
              clear hK KK
              refine d_done (by kernel_rfl) ?_ _
              try simp only [Act.put, List.setIfInBounds_toArray, List.set_cons_zero, List.set_cons_succ]
              obtain ⟨c9, hP9⟩ := HP9.out
              have HP10 := Lib.hid hP9
              clear hP9 HP9
              go_wp2
              go_roundw
              case rel => exact ⟨ki + 1, _, putC t x mm, c9, 0 + 1, rfl, by go_num, by omega, Hf2, HlenN, HP10, bw9⟩
              case measure => simp [intOf]; omega
      · have hgl : g < wo.heap.size := (Hp.out.choose_spec.1.lt g rfl).2
        have hglo : w.heap.size ≤ g := (Hp.out.choose_spec.1.lt g rfl).1
        obtain ⟨_, _, _, hnc, hcm, _⟩ := own_some Hp.out.choose_spec.1
        have Hat := Lib.hid (fun j (hj : j < mm.length) => atK Hp.out HN.out hj)
        have hncI : (N : Int) ≤ (cap : Int) := by omega
        have hcapI : (cap : Int) ≤ 9223372036854775807 := by unfold maxLen at hcm; omega
        have hNI : (N : Int) ≤ 70000 := by omega
        go_wp2_with fail
        go_loopw [12] (fun i wr => ∃ k : Nat, i = .int .i64 (k : Int) ∧ k ≤ N ∧ Hid (∀ j (h : j < mm.length), k ≤ j → ltB K mm[j].Key = true) ∧ Hid (Blk wr wo.heap.size 45 #[.string K, .string V, .bool G]) ∧ Hid (Blk wr (wo.heap.size + 1) 77 #[.int .i64 t, .string V, .bool G]) ∧ Below wo.heap.size wo wr) (fun i _ => (intOf i).toNat)
        case atStart => exact ⟨N, rfl, Nat.le_refl _, Lib.hid (fun j h1 h2 => by have := HN.out; omega), HX0, HV0, m0⟩
        case round =>
          obtain ⟨k, rfl, hk, Hall, HX, HXV, hbi⟩ := hrel
          clear HX0 HV0 m0
          have x0 := HX.out.cell 0 (v := .string K) rfl
          have x1 := HX.out.cell 1 (v := .string V) rfl
          have x2 := HX.out.cell 2 (v := .bool G) rfl
          have hkI : (k : Int) ≤ (N : Int) := by omega
          have hk0' : (0 : Int) ≤ (k : Int) := by omega
          have hkc' : (k : Int) ≤ (cap : Int) := by omega
          by_cases hk0 : k = 0
          · have hk0I : (k : Int) ≤ 0 := by omega
            have hkNn : ¬ (0 < k) := by omega
            obtain ⟨hno, hE⟩ := Hnone.out k (by have := HN.out; omega) Hall.out (fun j hj h => by omega)
            have HE := Lib.hid hE
            have Hf2 := Lib.hid (Hlater.out hno)
            clear hk0 hno hE Hnone Hlater Hnx Hstop Hlast
            by_cases hkc : cap = k
            · skip
              obtain rfl : N = k := by omega
              obtain rfl : cap = N := by omega
              go_wp2_with fail
              go_quiet (fail)
              go_wp2_with fail
              go_quiet (fail)
              go_upto_region 13 with fail
              generalize hw5 : World.drewN _ _ = w5
              have hbo : Below wo.heap.size wo w5 := by rw [← hw5]; (repeat (first | (with_reducible exact Below.refl _ _) | (with_reducible refine below_setCell ?_ (by first | (simp; done) | (simp; omega) | omega)) | (with_reducible refine below_alloc _ ?_) | (with_reducible refine below_drewN ?_ _) | (with_reducible assumption) | (with_reducible refine below_after (by assumption) ?_)))
              have BX5 : Blk w5 wo.heap.size 45 #[.string K, .string V, .bool G] := by rw [← hw5]; exact (HX.out.drewN _).drewN _
              have BV5 : Blk w5 (wo.heap.size + 1) 77 #[.int .i64 t, .string V, .bool G] := by rw [← hw5]; exact (HXV.out.drewN _).drewN _
              have HP5 := Lib.hid (Hp.out.below hbo)
              have Hb5 : Below w.heap.size w w5 := below_after hbo hb
              have hbw5 : w.heap.size ≤ w5.heap.size := Hb5.size
              have ho5 := HP5.out.choose_spec.1
              have hcl5 : cs.length = cap * 2 := ho5.1
              have hone := oneCell_cellR HP5.out HN.out
              obtain ⟨LDc, hLD⟩ : ∃ L, L = cs.drop (cap * 2) := ⟨_, rfl⟩
              obtain ⟨LTc, hLT⟩ : ∃ L, L = cs.take (cap * 2) := ⟨_, rfl⟩
              have hLD1 : ∀ u ∈ LDc, u.oneCell' = true := fun u hu => by rw [hLD] at hu; exact hone u (List.mem_of_mem_drop hu)
              have HSD : Hid (SrcOf w5 (.slice (some ⟨g, 0, none⟩) 0 0) 0 LDc) := Lib.hid (by rw [hLD]; exact (src_end hcl5 rfl))
              have HST : Hid (SrcOf w5 (.slice (some ⟨g, 0, none⟩) cap cap) cap LTc) := Lib.hid (by rw [hLT]; exact (src_take ho5 hone cap (Nat.le_refl _)))
              have Hnd : Hid (cap + 0 = cap) := Lib.hid (by omega)
              have hkN : cap ≤ cap := Nat.le_refl _
              have HlenN : Hid ((putC t x mm).length = cap + 1) := Lib.hid (by rw [HE.out, List.length_append, List.length_take, List.length_cons, List.length_drop]; have := HN.out; omega)
              clear hw5 hbo HX HXV ho5 hone hcl5
              obtain ⟨s7, w7, hrun7, ho7, hg7, hb7⟩ := run_append_cells (w5.alloc (.cells #[] 57)) 33 w5.heap.size (by simp) (made0 (w0 := w5) (e := 57) (size := 2) rfl (Nat.le_refl _)) (HSD.out.below (below_new _ _)) (by omega)
              go_wp2_with (at_builtin; go_must (refine Lib.wpList_append_run _ rfl _ _ 33 33 rfl _ _ rfl rfl s7 w7 hrun7 ?_))
              have k7 : Below w5.heap.size w5 w7 := (below_new _ _).trans hb7
              have HS7 : Hid (SrcOf w7 s7 0 LDc) := Lib.hid (by have := src_own ho7 (by simpa using hLD1); simpa using this)
              clear hrun7 ho7 hg7 hb7
              go_upto_region 14 with fail
              refine wp_region_d 14 (fun w' => w'.cell? ⟨wo.heap.size, 0, none⟩ = some (.string K) ∧ w'.cell? ⟨wo.heap.size + 1, 0, none⟩ = some (.int .i64 t) ∧ w'.cell? ⟨wo.heap.size + 1, 1, none⟩ = some (.string V) ∧ w'.cell? ⟨wo.heap.size + 1, 2, none⟩ = some (.bool G)) (by kernel_rfl) ?_
              obtain ⟨w8, hw8⟩ : ∃ w8, w7.drew = w8 := ⟨_, rfl⟩
              have k8 : Below w5.heap.size w5 w8 := by rw [← hw8]; exact k7.drew
              have b78 : Below w7.heap.size w7 w8 := by rw [← hw8]; exact (Below.refl _ _).drew
              rw [hw8]
              clear hw8
              have hS8 : Hid (∀ u, Below w8.heap.size w8 u → u.cell? ⟨wo.heap.size, 0, none⟩ = some (.string K) ∧ u.cell? ⟨wo.heap.size + 1, 0, none⟩ = some (.int .i64 t) ∧ u.cell? ⟨wo.heap.size + 1, 1, none⟩ = some (.string V) ∧ u.cell? ⟨wo.heap.size + 1, 2, none⟩ = some (.bool G)) := Lib.hid fun u b => ⟨((BX5.below k8).below b).cell 0 rfl, ((BV5.below k8).below b).cell 0 rfl, ((BV5.below k8).below b).cell 1 rfl, ((BV5.below k8).below b).cell 2 rfl⟩
              have hS := hS8.out w8 (Below.refl _ _)
              have HS8 : Hid (∀ u, Below w8.heap.size w8 u → SrcOf u s7 0 LDc) := Lib.hid fun u b => (HS7.out.below b78).below b
              have HT8 : Hid (∀ u, Below w8.heap.size w8 u → SrcOf u (.slice (some ⟨g, 0, none⟩) cap cap) cap LTc) := Lib.hid fun u b => (HST.out.below k8).below b
              have hz8 : w5.heap.size ≤ w8.heap.size := k8.size
              clear HS7 k7 b78
              refine d_take (f := 30) (v := ?_) 1 rfl (by kernel_rfl) (fun _ _ _ h => h) (Or.inl ⟨by rfl, ?_⟩) hS ?_
              rotate_left
              · intro wx hx
                obtain ⟨x0, x1, x2, x3⟩ := hx
                first | (go_simp; done) | (go_simp; with_reducible rfl)
              simp only [Act.put, List.setIfInBounds_toArray]
              refine d_take (f := 30) (v := ?_) 2 rfl (by kernel_rfl) (fun _ _ _ h => h) (Or.inl ⟨by rfl, ?_⟩) hS ?_
              rotate_left
              · intro wx hx
                obtain ⟨x0, x1, x2, x3⟩ := hx
                first | (go_simp; done) | (go_simp; with_reducible rfl)
              simp only [Act.put]
              refine d_take (f := 30) (v := ?_) 3 rfl (by kernel_rfl) (fun _ _ _ h => h) (Or.inl ⟨by rfl, ?_⟩) hS ?_
              rotate_left
              · intro wx hx
                obtain ⟨x0, x1, x2, x3⟩ := hx
                first | (go_simp; done) | (go_simp; with_reducible rfl)
              simp only [Act.put]
              refine d_take (f := 30) (v := ?_) 5 rfl (by kernel_rfl) (fun _ _ _ h => h) (Or.inl ⟨by rfl, ?_⟩) hS ?_
              rotate_left
              · intro wx hx
                obtain ⟨x0, x1, x2, x3⟩ := hx
                first | (go_simp; done) | (go_simp; with_reducible rfl)
              simp only [Act.put]
              refine d_take (f := 30) (v := ?_) 6 rfl (by kernel_rfl) (fun _ _ _ h => h) (Or.inl ⟨by rfl, ?_⟩) hS ?_
              rotate_left
              · intro wx hx
                obtain ⟨x0, x1, x2, x3⟩ := hx
                first | (go_simp; done) | (go_simp; with_reducible rfl)
              simp only [Act.put]
              refine d_take (f := 30) (v := ?_) 7 rfl (by kernel_rfl) (fun _ _ _ h => h) (Or.inl ⟨by rfl, ?_⟩) hS ?_
              rotate_left
              · intro wx hx
                obtain ⟨x0, x1, x2, x3⟩ := hx
                first | (go_simp; done) | (go_simp; with_reducible rfl)
              simp only [Act.put]
              refine d_take (f := 30) (v := ?_) 12 rfl (by kernel_rfl) (fun _ _ _ h => h) (Or.inl ⟨by rfl, ?_⟩) hS ?_
              rotate_left
              · intro wx hx
                obtain ⟨x0, x1, x2, x3⟩ := hx
                first | (go_simp; done) | (go_simp; with_reducible rfl)
              simp only [Act.put]
              have kw8 : Below w8.heap.size w8 w8 := Below.refl _ _
              refine d_two 0 8 (by kernel_rfl) rfl rfl (fun KK hK => ?_) (fun KK hK => ?_)
              · skip
                go_simp
                generalize hA : World.alloc _ _ = u1
                have PE : u1.ownsRow w8.heap.size 57 2 (.slice (some ⟨w8.heap.size, 0, none⟩) 0 0) 0 [] := by rw [← hA]; exact made0 rfl (Nat.le_refl _)
                have bu1 : Below w8.heap.size w8 u1 := by rw [← hA]; exact below_new _ _
                have ku1 : Below w8.heap.size w8 u1 := below_after bu1 kw8
                have hzu1 : w8.heap.size ≤ u1.heap.size := ku1.size
                have hyu1 : w8.heap.size ≤ u1.heap.size := bu1.size
                have hEB : w8.heap.size < u1.heap.size := (PE.lt _ rfl).2
                clear hA
                refine hK.out _ _ (fun _ => hS8.out u1 ku1) ?_
                clear hK KK
                try simp only [Act.put, List.setIfInBounds_toArray, List.set_cons_zero, List.set_cons_succ]
                refine d_two 4 8 (by kernel_rfl) rfl rfl (fun KK hK => ?_) (fun KK hK => ?_)
                · skip
                  obtain ⟨su2, u2, hrun, Pu2, gu2, kku2⟩ := run_append_cells u1 33 w8.heap.size (by first | exact Nat.le_refl _ | omega) PE (HT8.out _ ku1) (by omega)
                  refine step_append_eq rfl _ _ 33 rfl _ _ (by simp [Act.eval]) (by simp [Act.eval]) hrun ?_
                  have ku2 : Below w8.heap.size w8 u2 := ku1.trans (kku2.mono (by first | exact Nat.le_refl _ | omega))
                  have hzu2 : w8.heap.size ≤ u2.heap.size := ku2.size
                  have hyu2 : u1.heap.size ≤ u2.heap.size := kku2.size
                  clear hrun
                  refine hK.out _ _ (fun _ => hS8.out u2 ku2) ?_
                  clear hK KK
                  try simp only [Act.put, List.setIfInBounds_toArray]
                  have gEu2 : u1.grownBy u2 (some w8.heap.size) := gu2
                  have PL := Pu2
                  clear Pu2 PE
                  refine d_step 8 (by kernel_rfl) rfl (fun KK hK => ?_)
                  go_simp
                  generalize hA : World.alloc _ _ = u3
                  have XV : Blk u3 u2.heap.size 77 #[.int .i64 t, .string V, .bool G] := by rw [← hA]; exact Blk.new _ _ _
                  have bu3 : Below u2.heap.size u2 u3 := by rw [← hA]; exact below_new _ _
                  have ku3 : Below w8.heap.size w8 u3 := below_after bu3 ku2
                  have hzu3 : w8.heap.size ≤ u3.heap.size := ku3.size
                  have hyu3 : u2.heap.size ≤ u3.heap.size := bu3.size
                  have hVB : u2.heap.size < u3.heap.size := XV.lt
                  clear hA
                  refine hK.out _ _ (fun _ => hS8.out u3 ku3) ?_
                  clear hK KK
                  try simp only [Act.put, List.setIfInBounds_toArray, List.set_cons_zero, List.set_cons_succ]
                  have hS := hS8.out _ ku3
                  refine d_takeY (v := ?_) 9 rfl (by kernel_rfl) (fun _ _ _ h => h) (Or.inl ⟨by rfl, ?_⟩) hS ?_
                  rotate_left
                  · intro wx _
                    first | (go_simp; done) | (go_simp; with_reducible rfl)
                  simp only [Act.put, List.setIfInBounds_toArray]
                  clear hS
                  replace PL := own_below PL bu3
                  refine d_step 10 (by kernel_rfl) rfl (fun KK hK => ?_)
                  go_simp
                  generalize hA : World.alloc _ _ = u4
                  have XB : Blk u4 u3.heap.size 57 #[.string K, .slice (some ⟨u2.heap.size, 0, none⟩) 1 1] := by rw [← hA]; exact Blk.new _ _ _
                  have bu4 : Below u3.heap.size u3 u4 := by rw [← hA]; exact below_new _ _
                  have ku4 : Below w8.heap.size w8 u4 := below_after bu4 ku3
                  have hzu4 : w8.heap.size ≤ u4.heap.size := ku4.size
                  have hyu4 : u3.heap.size ≤ u4.heap.size := bu4.size
                  have hBB : u3.heap.size < u4.heap.size := XB.lt
                  clear hA
                  refine hK.out _ _ (fun _ => hS8.out u4 ku4) ?_
                  clear hK KK
                  try simp only [Act.put, List.setIfInBounds_toArray, List.set_cons_zero, List.set_cons_succ]
                  replace PL := own_below PL bu4
                  replace XV := XV.below bu4
                  refine d_step 11 (by kernel_rfl) rfl (fun KK hK => ?_)
                  obtain ⟨swy, wy, hrun, Pwy, gwy, kkwy⟩ := run_append_cells u4 33 w8.heap.size (by first | exact Nat.le_refl _ | omega) PL (src_box XB (by simp [Value.oneCell'])) (by omega)
                  refine step_append_eq rfl _ _ 33 rfl _ _ (by simp [Act.eval]) (by simp [Act.eval]) hrun ?_
                  have kwy : Below w8.heap.size w8 wy := ku4.trans (kkwy.mono (by first | exact Nat.le_refl _ | omega))
                  have hzwy : w8.heap.size ≤ wy.heap.size := kwy.size
                  have hywy : u4.heap.size ≤ wy.heap.size := kkwy.size
                  clear hrun
                  refine hK.out _ _ (fun _ => hS8.out wy kwy) ?_
                  clear hK KK
                  try simp only [Act.put, List.setIfInBounds_toArray]
                  have XV3 := XV.of (gwy.block _ XV.lt (row_ne PL XV (by decide)))
                  refine d_step 13 (by kernel_rfl) rfl (fun KK hK => ?_)
                  obtain ⟨swz, wz, hrun, Pwz, gwz, kkwz⟩ := run_append_cells wy 33 w8.heap.size (by first | exact Nat.le_refl _ | omega) Pwy (HS8.out _ kwy) (by omega)
                  refine step_append_eq rfl _ _ 33 rfl _ _ (by simp [Act.eval]) (by simp [Act.eval]) hrun ?_
                  have kwz : Below w8.heap.size w8 wz := kwy.trans (kkwz.mono (by first | exact Nat.le_refl _ | omega))
                  have hzwz : w8.heap.size ≤ wz.heap.size := kwz.size
                  have hywz : wy.heap.size ≤ wz.heap.size := kkwz.size
                  clear hrun
                  refine hK.out _ _ (fun _ => hS8.out wz kwz) ?_
                  clear hK KK
                  try simp only [Act.put]
                  have XV4 := XV3.of (gwz.block _ XV3.lt (row_ne Pwy XV3 (by decide)))
                  have HP9 : Hid (∃ c9, PartC Cod.cellR wz w.heap.size 57 swz (cap + 1) (putC t x mm) c9) := Lib.hid (ins_fresh HP5.out HN.out hkN hbw5 hz8 (by omega) HE.out hLT hLD Hnd.out XV4 Hver.out z0 Pwz (below_after kwz k8) (by omega))
                  have bw9 : Below w.heap.size w wz := below_after (below_after kwz k8) Hb5
                  clear XV XV3 XV4 XB PL Pwy Pwz gwy gwz kkwy kkwz
                  refine d_step 14 (by kernel_rfl) rfl (fun KK hK => ?_)
                  go_simp
                  refine hK.out _ _ (fun h => by exact absurd h (by decide)) ?_
                  clear hK KK
                  refine d_done (by kernel_rfl) ?_ _
                  try simp only [Act.put, List.setIfInBounds_toArray, List.set_cons_zero, List.set_cons_succ]
                  obtain ⟨c9, hP9⟩ := HP9.out
                  have HP10 := Lib.hid hP9
                  clear hP9 HP9
                  go_wp2
                  go_roundw
                  case rel => exact ⟨ki + 1, _, putC t x mm, c9, cap + 1, rfl, by go_num, by omega, Hf2, HlenN, HP10, bw9⟩
                  case measure => simp [intOf]; omega
                · skip
                  go_simp
                  generalize hA : World.alloc _ _ = u5
                  have XV : Blk u5 u1.heap.size 77 #[.int .i64 t, .string V, .bool G] := by rw [← hA]; exact Blk.new _ _ _
                  have bu5 : Below u1.heap.size u1 u5 := by rw [← hA]; exact below_new _ _
                  have ku5 : Below w8.heap.size w8 u5 := below_after bu5 ku1
                  have hzu5 : w8.heap.size ≤ u5.heap.size := ku5.size
                  have hyu5 : u1.heap.size ≤ u5.heap.size := bu5.size
                  have hVB : u1.heap.size < u5.heap.size := XV.lt
                  clear hA
                  refine hK.out _ _ (fun _ => hS8.out u5 ku5) ?_
                  clear hK KK
                  try simp only [Act.put, List.setIfInBounds_toArray, List.set_cons_zero, List.set_cons_succ]
                  have hS := hS8.out _ ku5
                  refine d_takeY (v := ?_) 9 rfl (by kernel_rfl) (fun _ _ _ h => h) (Or.inl ⟨by rfl, ?_⟩) hS ?_
                  rotate_left
                  · intro wx _
                    first | (go_simp; done) | (go_simp; with_reducible rfl)
                  simp only [Act.put, List.setIfInBounds_toArray]
                  clear hS
                  replace PE := own_below PE bu5
                  refine d_two 4 10 (by kernel_rfl) rfl rfl (fun KK hK => ?_) (fun KK hK => ?_)
                  · skip
                    obtain ⟨su6, u6, hrun, Pu6, gu6, kku6⟩ := run_append_cells u5 33 w8.heap.size (by first | exact Nat.le_refl _ | omega) PE (HT8.out _ ku5) (by omega)
                    refine step_append_eq rfl _ _ 33 rfl _ _ (by simp [Act.eval]) (by simp [Act.eval]) hrun ?_
                    have ku6 : Below w8.heap.size w8 u6 := ku5.trans (kku6.mono (by first | exact Nat.le_refl _ | omega))
                    have hzu6 : w8.heap.size ≤ u6.heap.size := ku6.size
                    have hyu6 : u5.heap.size ≤ u6.heap.size := kku6.size
                    clear hrun
                    refine hK.out _ _ (fun _ => hS8.out u6 ku6) ?_
                    clear hK KK
                    try simp only [Act.put]
                    have gEu6 : u5.grownBy u6 (some w8.heap.size) := gu6
                    have PL := Pu6
                    clear Pu6 PE
                    replace XV := XV.grown gEu6 (by omega)
                    refine d_step 10 (by kernel_rfl) rfl (fun KK hK => ?_)
                    go_simp
                    generalize hA : World.alloc _ _ = u7
                    have XB : Blk u7 u6.heap.size 57 #[.string K, .slice (some ⟨u1.heap.size, 0, none⟩) 1 1] := by rw [← hA]; exact Blk.new _ _ _
                    have bu7 : Below u6.heap.size u6 u7 := by rw [← hA]; exact below_new _ _
                    have ku7 : Below w8.heap.size w8 u7 := below_after bu7 ku6
                    have hzu7 : w8.heap.size ≤ u7.heap.size := ku7.size
                    have hyu7 : u6.heap.size ≤ u7.heap.size := bu7.size
                    have hBB : u6.heap.size < u7.heap.size := XB.lt
                    clear hA
                    refine hK.out _ _ (fun _ => hS8.out u7 ku7) ?_
                    clear hK KK
                    try simp only [Act.put, List.setIfInBounds_toArray, List.set_cons_zero, List.set_cons_succ]
                    replace PL := own_below PL bu7
                    replace XV := XV.below bu7
                    refine d_step 11 (by kernel_rfl) rfl (fun KK hK => ?_)
                    obtain ⟨swy, wy, hrun, Pwy, gwy, kkwy⟩ := run_append_cells u7 33 w8.heap.size (by first | exact Nat.le_refl _ | omega) PL (src_box XB (by simp [Value.oneCell'])) (by omega)
                    refine step_append_eq rfl _ _ 33 rfl _ _ (by simp [Act.eval]) (by simp [Act.eval]) hrun ?_
                    have kwy : Below w8.heap.size w8 wy := ku7.trans (kkwy.mono (by first | exact Nat.le_refl _ | omega))
                    have hzwy : w8.heap.size ≤ wy.heap.size := kwy.size
                    have hywy : u7.heap.size ≤ wy.heap.size := kkwy.size
                    clear hrun
                    refine hK.out _ _ (fun _ => hS8.out wy kwy) ?_
                    clear hK KK
                    try simp only [Act.put, List.setIfInBounds_toArray]
                    have XV3 := XV.of (gwy.block _ XV.lt (row_ne PL XV (by decide)))
                    refine d_step 13 (by kernel_rfl) rfl (fun KK hK => ?_)
                    obtain ⟨swz, wz, hrun, Pwz, gwz, kkwz⟩ := run_append_cells wy 33 w8.heap.size (by first | exact Nat.le_refl _ | omega) Pwy (HS8.out _ kwy) (by omega)
                    refine step_append_eq rfl _ _ 33 rfl _ _ (by simp [Act.eval]) (by simp [Act.eval]) hrun ?_
                    have kwz : Below w8.heap.size w8 wz := kwy.trans (kkwz.mono (by first | exact Nat.le_refl _ | omega))
                    have hzwz : w8.heap.size ≤ wz.heap.size := kwz.size
                    have hywz : wy.heap.size ≤ wz.heap.size := kkwz.size
                    clear hrun
                    refine hK.out _ _ (fun _ => hS8.out wz kwz) ?_
                    clear hK KK
                    try simp only [Act.put]
                    have XV4 := XV3.of (gwz.block _ XV3.lt (row_ne Pwy XV3 (by decide)))
                    have HP9 : Hid (∃ c9, PartC Cod.cellR wz w.heap.size 57 swz (cap + 1) (putC t x mm) c9) := Lib.hid (ins_fresh HP5.out HN.out hkN hbw5 hz8 (by omega) HE.out hLT hLD Hnd.out XV4 Hver.out z0 Pwz (below_after kwz k8) (by omega))
                    have bw9 : Below w.heap.size w wz := below_after (below_after kwz k8) Hb5
                    clear XV XV3 XV4 XB PL Pwy Pwz gwy gwz kkwy kkwz
                    refine d_step 14 (by kernel_rfl) rfl (fun KK hK => ?_)
                    go_simp
                    refine hK.out _ _ (fun h => by exact absurd h (by decide)) ?_
                    clear hK KK
                    refine d_done (by kernel_rfl) ?_ _
                    try simp only [Act.put, List.setIfInBounds_toArray, List.set_cons_zero, List.set_cons_succ]
                    obtain ⟨c9, hP9⟩ := HP9.out
                    have HP10 := Lib.hid hP9
                    clear hP9 HP9
                    go_wp2
                    go_roundw
                    case rel => exact ⟨ki + 1, _, putC t x mm, c9, cap + 1, rfl, by go_num, by omega, Hf2, HlenN, HP10, bw9⟩
                    case measure => simp [intOf]; omega
                  · skip
                    go_simp
                    generalize hA : World.alloc _ _ = u8
                    have XB : Blk u8 u5.heap.size 57 #[.string K, .slice (some ⟨u1.heap.size, 0, none⟩) 1 1] := by rw [← hA]; exact Blk.new _ _ _
                    have bu8 : Below u5.heap.size u5 u8 := by rw [← hA]; exact below_new _ _
                    have ku8 : Below w8.heap.size w8 u8 := below_after bu8 ku5
                    have hzu8 : w8.heap.size ≤ u8.heap.size := ku8.size
                    have hyu8 : u5.heap.size ≤ u8.heap.size := bu8.size
                    have hBB : u5.heap.size < u8.heap.size := XB.lt
                    clear hA
                    refine hK.out _ _ (fun _ => hS8.out u8 ku8) ?_
                    clear hK KK
                    try simp only [Act.put, List.setIfInBounds_toArray, List.set_cons_zero, List.set_cons_succ]
                    replace PE := own_below PE bu8
                    replace XV := XV.below bu8
                    refine d_step 4 (by kernel_rfl) rfl (fun KK hK => ?_)
                    obtain ⟨su9, u9, hrun, Pu9, gu9, kku9⟩ := run_append_cells u8 33 w8.heap.size (by first | exact Nat.le_refl _ | omega) PE (HT8.out _ ku8) (by omega)
                    refine step_append_eq rfl _ _ 33 rfl _ _ (by simp [Act.eval]) (by simp [Act.eval]) hrun ?_
                    have ku9 : Below w8.heap.size w8 u9 := ku8.trans (kku9.mono (by first | exact Nat.le_refl _ | omega))
                    have hzu9 : w8.heap.size ≤ u9.heap.size := ku9.size
                    have hyu9 : u8.heap.size ≤ u9.heap.size := kku9.size
                    clear hrun
                    refine hK.out _ _ (fun _ => hS8.out u9 ku9) ?_
                    clear hK KK
                    try simp only [Act.put, List.setIfInBounds_toArray]
                    have gEu9 : u8.grownBy u9 (some w8.heap.size) := gu9
                    have PL := Pu9
                    clear Pu9 PE
                    replace XV := XV.grown gEu9 (by omega)
                    replace XB := XB.grown gEu9 (by omega)
                    refine d_step 11 (by kernel_rfl) rfl (fun KK hK => ?_)
                    obtain ⟨swy, wy, hrun, Pwy, gwy, kkwy⟩ := run_append_cells u9 33 w8.heap.size (by first | exact Nat.le_refl _ | omega) PL (src_box XB (by simp [Value.oneCell'])) (by omega)
                    refine step_append_eq rfl _ _ 33 rfl _ _ (by simp [Act.eval]) (by simp [Act.eval]) hrun ?_
                    have kwy : Below w8.heap.size w8 wy := ku9.trans (kkwy.mono (by first | exact Nat.le_refl _ | omega))
                    have hzwy : w8.heap.size ≤ wy.heap.size := kwy.size
                    have hywy : u9.heap.size ≤ wy.heap.size := kkwy.size
                    clear hrun
                    refine hK.out _ _ (fun _ => hS8.out wy kwy) ?_
                    clear hK KK
                    try simp only [Act.put]
                    have XV3 := XV.of (gwy.block _ XV.lt (row_ne PL XV (by decide)))
                    refine d_step 13 (by kernel_rfl) rfl (fun KK hK => ?_)
                    obtain ⟨swz, wz, hrun, Pwz, gwz, kkwz⟩ := run_append_cells wy 33 w8.heap.size (by first | exact Nat.le_refl _ | omega) Pwy (HS8.out _ kwy) (by omega)
                    refine step_append_eq rfl _ _ 33 rfl _ _ (by simp [Act.eval]) (by simp [Act.eval]) hrun ?_
                    have kwz : Below w8.heap.size w8 wz := kwy.trans (kkwz.mono (by first | exact Nat.le_refl _ | omega))
                    have hzwz : w8.heap.size ≤ wz.heap.size := kwz.size
                    have hywz : wy.heap.size ≤ wz.heap.size := kkwz.size
                    clear hrun
                    refine hK.out _ _ (fun _ => hS8.out wz kwz) ?_
                    clear hK KK
                    try simp only [Act.put]
                    have XV4 := XV3.of (gwz.block _ XV3.lt (row_ne Pwy XV3 (by decide)))
                    have HP9 : Hid (∃ c9, PartC Cod.cellR wz w.heap.size 57 swz (cap + 1) (putC t x mm) c9) := Lib.hid (ins_fresh HP5.out HN.out hkN hbw5 hz8 (by omega) HE.out hLT hLD Hnd.out XV4 Hver.out z0 Pwz (below_after kwz k8) (by omega))
                    have bw9 : Below w.heap.size w wz := below_after (below_after kwz k8) Hb5
                    clear XV XV3 XV4 XB PL Pwy Pwz gwy gwz kkwy kkwz
                    refine d_step 14 (by kernel_rfl) rfl (fun KK hK => ?_)
                    go_simp
                    refine hK.out _ _ (fun h => by exact absurd h (by decide)) ?_
                    clear hK KK
                    refine d_done (by kernel_rfl) ?_ _
                    try simp only [Act.put, List.setIfInBounds_toArray, List.set_cons_zero, List.set_cons_succ]
                    obtain ⟨c9, hP9⟩ := HP9.out
                    have HP10 := Lib.hid hP9
                    clear hP9 HP9
                    go_wp2
                    go_roundw
                    case rel => exact ⟨ki + 1, _, putC t x mm, c9, cap + 1, rfl, by go_num, by omega, Hf2, HlenN, HP10, bw9⟩
                    case measure => simp [intOf]; omega
              · skip
                go_simp
                generalize hA : World.alloc _ _ = u10
                have XV : Blk u10 w8.heap.size 77 #[.int .i64 t, .string V, .bool G] := by rw [← hA]; exact Blk.new _ _ _
                have bu10 : Below w8.heap.size w8 u10 := by rw [← hA]; exact below_new _ _
                have ku10 : Below w8.heap.size w8 u10 := below_after bu10 kw8
                have hzu10 : w8.heap.size ≤ u10.heap.size := ku10.size
                have hyu10 : w8.heap.size ≤ u10.heap.size := bu10.size
                have hVB : w8.heap.size < u10.heap.size := XV.lt
                clear hA
                refine hK.out _ _ (fun _ => hS8.out u10 ku10) ?_
                clear hK KK
                try simp only [Act.put, List.setIfInBounds_toArray, List.set_cons_zero, List.set_cons_succ]
                have hS := hS8.out _ ku10
                refine d_takeY (v := ?_) 9 rfl (by kernel_rfl) (fun _ _ _ h => h) (Or.inl ⟨by rfl, ?_⟩) hS ?_
                rotate_left
                · intro wx _
                  first | (go_simp; done) | (go_simp; with_reducible rfl)
                simp only [Act.put, List.setIfInBounds_toArray]
                clear hS
                refine d_two 0 10 (by kernel_rfl) rfl rfl (fun KK hK => ?_) (fun KK hK => ?_)
                · skip
                  go_simp
                  generalize hA : World.alloc _ _ = u11
                  have PE : u11.ownsRow u10.heap.size 57 2 (.slice (some ⟨u10.heap.size, 0, none⟩) 0 0) 0 [] := by rw [← hA]; exact made0 rfl (Nat.le_refl _)
                  have bu11 : Below u10.heap.size u10 u11 := by rw [← hA]; exact below_new _ _
                  have ku11 : Below w8.heap.size w8 u11 := below_after bu11 ku10
                  have hzu11 : w8.heap.size ≤ u11.heap.size := ku11.size
                  have hyu11 : u10.heap.size ≤ u11.heap.size := bu11.size
                  have hEB : u10.heap.size < u11.heap.size := (PE.lt _ rfl).2
                  clear hA
                  refine hK.out _ _ (fun _ => hS8.out u11 ku11) ?_
                  clear hK KK
                  try simp only [Act.put, List.setIfInBounds_toArray, List.set_cons_zero, List.set_cons_succ]
                  replace XV := XV.below bu11
                  refine d_two 4 10 (by kernel_rfl) rfl rfl (fun KK hK => ?_) (fun KK hK => ?_)
                  · skip
                    obtain ⟨su12, u12, hrun, Pu12, gu12, kku12⟩ := run_append_cells u11 33 u10.heap.size (by first | exact Nat.le_refl _ | omega) PE (HT8.out _ ku11) (by omega)
                    refine step_append_eq rfl _ _ 33 rfl _ _ (by simp [Act.eval]) (by simp [Act.eval]) hrun ?_
                    have ku12 : Below w8.heap.size w8 u12 := ku11.trans (kku12.mono (by first | exact Nat.le_refl _ | omega))
                    have hzu12 : w8.heap.size ≤ u12.heap.size := ku12.size
                    have hyu12 : u11.heap.size ≤ u12.heap.size := kku12.size
                    clear hrun
                    refine hK.out _ _ (fun _ => hS8.out u12 ku12) ?_
                    clear hK KK
                    try simp only [Act.put, List.setIfInBounds_toArray]
                    have gEu12 : u11.grownBy u12 (some u10.heap.size) := gu12
                    have PL := Pu12
                    clear Pu12 PE
                    replace XV := XV.grown gEu12 (by omega)
                    refine d_step 10 (by kernel_rfl) rfl (fun KK hK => ?_)
                    go_simp
                    generalize hA : World.alloc _ _ = u13
                    have XB : Blk u13 u12.heap.size 57 #[.string K, .slice (some ⟨w8.heap.size, 0, none⟩) 1 1] := by rw [← hA]; exact Blk.new _ _ _
                    have bu13 : Below u12.heap.size u12 u13 := by rw [← hA]; exact below_new _ _
                    have ku13 : Below w8.heap.size w8 u13 := below_after bu13 ku12
                    have hzu13 : w8.heap.size ≤ u13.heap.size := ku13.size
                    have hyu13 : u12.heap.size ≤ u13.heap.size := bu13.size
                    have hBB : u12.heap.size < u13.heap.size := XB.lt
                    clear hA
                    refine hK.out _ _ (fun _ => hS8.out u13 ku13) ?_
                    clear hK KK
                    try simp only [Act.put, List.setIfInBounds_toArray, List.set_cons_zero, List.set_cons_succ]
                    replace PL := own_below PL bu13
                    replace XV := XV.below bu13
                    refine d_step 11 (by kernel_rfl) rfl (fun KK hK => ?_)
                    obtain ⟨swy, wy, hrun, Pwy, gwy, kkwy⟩ := run_append_cells u13 33 u10.heap.size (by first | exact Nat.le_refl _ | omega) PL (src_box XB (by simp [Value.oneCell'])) (by omega)
                    refine step_append_eq rfl _ _ 33 rfl _ _ (by simp [Act.eval]) (by simp [Act.eval]) hrun ?_
                    have kwy : Below w8.heap.size w8 wy := ku13.trans (kkwy.mono (by first | exact Nat.le_refl _ | omega))
                    have hzwy : w8.heap.size ≤ wy.heap.size := kwy.size
                    have hywy : u13.heap.size ≤ wy.heap.size := kkwy.size
                    clear hrun
                    refine hK.out _ _ (fun _ => hS8.out wy kwy) ?_
                    clear hK KK
                    try simp only [Act.put, List.setIfInBounds_toArray]
                    have XV3 := XV.of (gwy.block _ XV.lt (row_ne PL XV (by decide)))
                    refine d_step 13 (by kernel_rfl) rfl (fun KK hK => ?_)
                    obtain ⟨swz, wz, hrun, Pwz, gwz, kkwz⟩ := run_append_cells wy 33 u10.heap.size (by first | exact Nat.le_refl _ | omega) Pwy (HS8.out _ kwy) (by omega)
                    refine step_append_eq rfl _ _ 33 rfl _ _ (by simp [Act.eval]) (by simp [Act.eval]) hrun ?_
                    have kwz : Below w8.heap.size w8 wz := kwy.trans (kkwz.mono (by first | exact Nat.le_refl _ | omega))
                    have hzwz : w8.heap.size ≤ wz.heap.size := kwz.size
                    have hywz : wy.heap.size ≤ wz.heap.size := kkwz.size
                    clear hrun
                    refine hK.out _ _ (fun _ => hS8.out wz kwz) ?_
                    clear hK KK
                    try simp only [Act.put]
                    have XV4 := XV3.of (gwz.block _ XV3.lt (row_ne Pwy XV3 (by decide)))
                    have HP9 : Hid (∃ c9, PartC Cod.cellR wz w.heap.size 57 swz (cap + 1) (putC t x mm) c9) := Lib.hid (ins_fresh HP5.out HN.out hkN hbw5 hz8 (by omega) HE.out hLT hLD Hnd.out XV4 Hver.out z0 Pwz (below_after kwz k8) (by omega))
                    have bw9 : Below w.heap.size w wz := below_after (below_after kwz k8) Hb5
                    clear XV XV3 XV4 XB PL Pwy Pwz gwy gwz kkwy kkwz
                    refine d_step 14 (by kernel_rfl) rfl (fun KK hK => ?_)
                    go_simp
                    refine hK.out _ _ (fun h => by exact absurd h (by decide)) ?_
                    clear hK KK
                    refine d_done (by kernel_rfl) ?_ _
                    try simp only [Act.put, List.setIfInBounds_toArray, List.set_cons_zero, List.set_cons_succ]
                    obtain ⟨c9, hP9⟩ := HP9.out
                    have HP10 := Lib.hid hP9
                    clear hP9 HP9
                    go_wp2
                    go_roundw
                    case rel => exact ⟨ki + 1, _, putC t x mm, c9, cap + 1, rfl, by go_num, by omega, Hf2, HlenN, HP10, bw9⟩
                    case measure => simp [intOf]; omega
                  · skip
                    go_simp
                    generalize hA : World.alloc _ _ = u14
                    have XB : Blk u14 u11.heap.size 57 #[.string K, .slice (some ⟨w8.heap.size, 0, none⟩) 1 1] := by rw [← hA]; exact Blk.new _ _ _
                    have bu14 : Below u11.heap.size u11 u14 := by rw [← hA]; exact below_new _ _
                    have ku14 : Below w8.heap.size w8 u14 := below_after bu14 ku11
                    have hzu14 : w8.heap.size ≤ u14.heap.size := ku14.size
                    have hyu14 : u11.heap.size ≤ u14.heap.size := bu14.size
                    have hBB : u11.heap.size < u14.heap.size := XB.lt
                    clear hA
                    refine hK.out _ _ (fun _ => hS8.out u14 ku14) ?_
                    clear hK KK
                    try simp only [Act.put, List.setIfInBounds_toArray, List.set_cons_zero, List.set_cons_succ]
                    replace PE := own_below PE bu14
                    replace XV := XV.below bu14
                    refine d_step 4 (by kernel_rfl) rfl (fun KK hK => ?_)
                    obtain ⟨su15, u15, hrun, Pu15, gu15, kku15⟩ := run_append_cells u14 33 u10.heap.size (by first | exact Nat.le_refl _ | omega) PE (HT8.out _ ku14) (by omega)
                    refine step_append_eq rfl _ _ 33 rfl _ _ (by simp [Act.eval]) (by simp [Act.eval]) hrun ?_
                    have ku15 : Below w8.heap.size w8 u15 := ku14.trans (kku15.mono (by first | exact Nat.le_refl _ | omega))
                    have hzu15 : w8.heap.size ≤ u15.heap.size := ku15.size
                    have hyu15 : u14.heap.size ≤ u15.heap.size := kku15.size
                    clear hrun
                    refine hK.out _ _ (fun _ => hS8.out u15 ku15) ?_
                    clear hK KK
                    try simp only [Act.put, List.setIfInBounds_toArray]
                    have gEu15 : u14.grownBy u15 (some u10.heap.size) := gu15
                    have PL := Pu15
                    clear Pu15 PE
                    replace XV := XV.grown gEu15 (by omega)
                    replace XB := XB.grown gEu15 (by omega)
                    refine d_step 11 (by kernel_rfl) rfl (fun KK hK => ?_)
                    obtain ⟨swy, wy, hrun, Pwy, gwy, kkwy⟩ := run_append_cells u15 33 u10.heap.size (by first | exact Nat.le_refl _ | omega) PL (src_box XB (by simp [Value.oneCell'])) (by omega)
                    refine step_append_eq rfl _ _ 33 rfl _ _ (by simp [Act.eval]) (by simp [Act.eval]) hrun ?_
                    have kwy : Below w8.heap.size w8 wy := ku15.trans (kkwy.mono (by first | exact Nat.le_refl _ | omega))
                    have hzwy : w8.heap.size ≤ wy.heap.size := kwy.size
                    have hywy : u15.heap.size ≤ wy.heap.size := kkwy.size
                    clear hrun
                    refine hK.out _ _ (fun _ => hS8.out wy kwy) ?_
                    clear hK KK
                    try simp only [Act.put]
                    have XV3 := XV.of (gwy.block _ XV.lt (row_ne PL XV (by decide)))
                    refine d_step 13 (by kernel_rfl) rfl (fun KK hK => ?_)
                    obtain ⟨swz, wz, hrun, Pwz, gwz, kkwz⟩ := run_append_cells wy 33 u10.heap.size (by first | exact Nat.le_refl _ | omega) Pwy (HS8.out _ kwy) (by omega)
                    refine step_append_eq rfl _ _ 33 rfl _ _ (by simp [Act.eval]) (by simp [Act.eval]) hrun ?_
                    have kwz : Below w8.heap.size w8 wz := kwy.trans (kkwz.mono (by first | exact Nat.le_refl _ | omega))
                    have hzwz : w8.heap.size ≤ wz.heap.size := kwz.size
                    have hywz : wy.heap.size ≤ wz.heap.size := kkwz.size
                    clear hrun
                    refine hK.out _ _ (fun _ => hS8.out wz kwz) ?_
                    clear hK KK
                    try simp only [Act.put]
                    have XV4 := XV3.of (gwz.block _ XV3.lt (row_ne Pwy XV3 (by decide)))
                    have HP9 : Hid (∃ c9, PartC Cod.cellR wz w.heap.size 57 swz (cap + 1) (putC t x mm) c9) := Lib.hid (ins_fresh HP5.out HN.out hkN hbw5 hz8 (by omega) HE.out hLT hLD Hnd.out XV4 Hver.out z0 Pwz (below_after kwz k8) (by omega))
                    have bw9 : Below w.heap.size w wz := below_after (below_after kwz k8) Hb5
                    clear XV XV3 XV4 XB PL Pwy Pwz gwy gwz kkwy kkwz
                    refine d_step 14 (by kernel_rfl) rfl (fun KK hK => ?_)
                    go_simp
                    refine hK.out _ _ (fun h => by exact absurd h (by decide)) ?_
                    clear hK KK
                    refine d_done (by kernel_rfl) ?_ _
                    try simp only [Act.put, List.setIfInBounds_toArray, List.set_cons_zero, List.set_cons_succ]
                    obtain ⟨c9, hP9⟩ := HP9.out
                    have HP10 := Lib.hid hP9
                    clear hP9 HP9
                    go_wp2
                    go_roundw
                    case rel => exact ⟨ki + 1, _, putC t x mm, c9, cap + 1, rfl, by go_num, by omega, Hf2, HlenN, HP10, bw9⟩
                    case measure => simp [intOf]; omega
                · skip
                  go_simp
                  generalize hA : World.alloc _ _ = u16
                  have XB : Blk u16 u10.heap.size 57 #[.string K, .slice (some ⟨w8.heap.size, 0, none⟩) 1 1] := by rw [← hA]; exact Blk.new _ _ _
                  have bu16 : Below u10.heap.size u10 u16 := by rw [← hA]; exact below_new _ _
                  have ku16 : Below w8.heap.size w8 u16 := below_after bu16 ku10
                  have hzu16 : w8.heap.size ≤ u16.heap.size := ku16.size
                  have hyu16 : u10.heap.size ≤ u16.heap.size := bu16.size
                  have hBB : u10.heap.size < u16.heap.size := XB.lt
                  clear hA
                  refine hK.out _ _ (fun _ => hS8.out u16 ku16) ?_
                  clear hK KK
                  try simp only [Act.put, List.setIfInBounds_toArray, List.set_cons_zero, List.set_cons_succ]
                  replace XV := XV.below bu16
                  refine d_step 0 (by kernel_rfl) rfl (fun KK hK => ?_)
                  go_simp
                  generalize hA : World.alloc _ _ = u17
                  have PE : u17.ownsRow u16.heap.size 57 2 (.slice (some ⟨u16.heap.size, 0, none⟩) 0 0) 0 [] := by rw [← hA]; exact made0 rfl (Nat.le_refl _)
                  have bu17 : Below u16.heap.size u16 u17 := by rw [← hA]; exact below_new _ _
                  have ku17 : Below w8.heap.size w8 u17 := below_after bu17 ku16
                  have hzu17 : w8.heap.size ≤ u17.heap.size := ku17.size
                  have hyu17 : u16.heap.size ≤ u17.heap.size := bu17.size
                  have hEB : u16.heap.size < u17.heap.size := (PE.lt _ rfl).2
                  clear hA
                  refine hK.out _ _ (fun _ => hS8.out u17 ku17) ?_
                  clear hK KK
                  try simp only [Act.put, List.setIfInBounds_toArray, List.set_cons_zero, List.set_cons_succ]
                  replace XV := XV.below bu17
                  replace XB := XB.below bu17
                  refine d_step 4 (by kernel_rfl) rfl (fun KK hK => ?_)
                  obtain ⟨su18, u18, hrun, Pu18, gu18, kku18⟩ := run_append_cells u17 33 u16.heap.size (by first | exact Nat.le_refl _ | omega) PE (HT8.out _ ku17) (by omega)
                  refine step_append_eq rfl _ _ 33 rfl _ _ (by simp [Act.eval]) (by simp [Act.eval]) hrun ?_
                  have ku18 : Below w8.heap.size w8 u18 := ku17.trans (kku18.mono (by first | exact Nat.le_refl _ | omega))
                  have hzu18 : w8.heap.size ≤ u18.heap.size := ku18.size
                  have hyu18 : u17.heap.size ≤ u18.heap.size := kku18.size
                  clear hrun
                  refine hK.out _ _ (fun _ => hS8.out u18 ku18) ?_
                  clear hK KK
                  try simp only [Act.put, List.setIfInBounds_toArray]
                  have gEu18 : u17.grownBy u18 (some u16.heap.size) := gu18
                  have PL := Pu18
                  clear Pu18 PE
                  replace XV := XV.grown gEu18 (by omega)
                  replace XB := XB.grown gEu18 (by omega)
                  refine d_step 11 (by kernel_rfl) rfl (fun KK hK => ?_)
                  obtain ⟨swy, wy, hrun, Pwy, gwy, kkwy⟩ := run_append_cells u18 33 u16.heap.size (by first | exact Nat.le_refl _ | omega) PL (src_box XB (by simp [Value.oneCell'])) (by omega)
                  refine step_append_eq rfl _ _ 33 rfl _ _ (by simp [Act.eval]) (by simp [Act.eval]) hrun ?_
                  have kwy : Below w8.heap.size w8 wy := ku18.trans (kkwy.mono (by first | exact Nat.le_refl _ | omega))
                  have hzwy : w8.heap.size ≤ wy.heap.size := kwy.size
                  have hywy : u18.heap.size ≤ wy.heap.size := kkwy.size
                  clear hrun
                  refine hK.out _ _ (fun _ => hS8.out wy kwy) ?_
                  clear hK KK
                  try simp only [Act.put]
                  have XV3 := XV.of (gwy.block _ XV.lt (row_ne PL XV (by decide)))
                  refine d_step 13 (by kernel_rfl) rfl (fun KK hK => ?_)
                  obtain ⟨swz, wz, hrun, Pwz, gwz, kkwz⟩ := run_append_cells wy 33 u16.heap.size (by first | exact Nat.le_refl _ | omega) Pwy (HS8.out _ kwy) (by omega)
                  refine step_append_eq rfl _ _ 33 rfl _ _ (by simp [Act.eval]) (by simp [Act.eval]) hrun ?_
                  have kwz : Below w8.heap.size w8 wz := kwy.trans (kkwz.mono (by first | exact Nat.le_refl _ | omega))
                  have hzwz : w8.heap.size ≤ wz.heap.size := kwz.size
                  have hywz : wy.heap.size ≤ wz.heap.size := kkwz.size
                  clear hrun
                  refine hK.out _ _ (fun _ => hS8.out wz kwz) ?_
                  clear hK KK
                  try simp only [Act.put]
                  have XV4 := XV3.of (gwz.block _ XV3.lt (row_ne Pwy XV3 (by decide)))
                  have HP9 : Hid (∃ c9, PartC Cod.cellR wz w.heap.size 57 swz (cap + 1) (putC t x mm) c9) := Lib.hid (ins_fresh HP5.out HN.out hkN hbw5 hz8 (by omega) HE.out hLT hLD Hnd.out XV4 Hver.out z0 Pwz (below_after kwz k8) (by omega))
                  have bw9 : Below w.heap.size w wz := below_after (below_after kwz k8) Hb5
                  clear XV XV3 XV4 XB PL Pwy Pwz gwy gwz kkwy kkwz
                  refine d_step 14 (by kernel_rfl) rfl (fun KK hK => ?_)
                  go_simp
                  refine hK.out _ _ (fun h => by exact absurd h (by decide)) ?_
                  clear hK KK
                  refine d_done (by kernel_rfl) ?_ _
                  try simp only [Act.put, List.setIfInBounds_toArray, List.set_cons_zero, List.set_cons_succ]
                  obtain ⟨c9, hP9⟩ := HP9.out
                  have HP10 := Lib.hid hP9
                  clear hP9 HP9
                  go_wp2
                  go_roundw
                  case rel => exact ⟨ki + 1, _, putC t x mm, c9, cap + 1, rfl, by go_num, by omega, Hf2, HlenN, HP10, bw9⟩
                  case measure => simp [intOf]; omega
            · skip
              go_wp2_with fail
              go_quiet (fail)
              go_wp2_with fail
              go_quiet (fail)
              go_upto_region 13 with fail
              generalize hw5 : World.drewN _ _ = w5
              have hbo : Below wo.heap.size wo w5 := by rw [← hw5]; (repeat (first | (with_reducible exact Below.refl _ _) | (with_reducible refine below_setCell ?_ (by first | (simp; done) | (simp; omega) | omega)) | (with_reducible refine below_alloc _ ?_) | (with_reducible refine below_drewN ?_ _) | (with_reducible assumption) | (with_reducible refine below_after (by assumption) ?_)))
              have BX5 : Blk w5 wo.heap.size 45 #[.string K, .string V, .bool G] := by rw [← hw5]; exact (HX.out.drewN _).drewN _
              have BV5 : Blk w5 (wo.heap.size + 1) 77 #[.int .i64 t, .string V, .bool G] := by rw [← hw5]; exact (HXV.out.drewN _).drewN _
              have HP5 := Lib.hid (Hp.out.below hbo)
              have Hb5 : Below w.heap.size w w5 := below_after hbo hb
              have hbw5 : w.heap.size ≤ w5.heap.size := Hb5.size
              have ho5 := HP5.out.choose_spec.1
              have hcl5 : cs.length = N * 2 := ho5.1
              have hone := oneCell_cellR HP5.out HN.out
              obtain ⟨LDc, hLD⟩ : ∃ L, L = cs.drop (k * 2) := ⟨_, rfl⟩
              obtain ⟨LTc, hLT⟩ : ∃ L, L = cs.take (k * 2) := ⟨_, rfl⟩
              have hLD1 : ∀ u ∈ LDc, u.oneCell' = true := fun u hu => by rw [hLD] at hu; exact hone u (List.mem_of_mem_drop hu)
              have HSD : Hid (SrcOf w5 (.slice (some ⟨g, k * 2, none⟩) (N - k) (cap - k)) (N - k) LDc) := Lib.hid (by rw [hLD]; exact (src_drop ho5 hone k hk))
              have HST : Hid (SrcOf w5 (.slice (some ⟨g, 0, none⟩) k cap) k LTc) := Lib.hid (by rw [hLT]; exact (src_take ho5 hone k hk))
              have Hnd : Hid (k + (N - k) = N) := Lib.hid (by omega)
              have hkN : k ≤ N := hk
              have HlenN : Hid ((putC t x mm).length = N + 1) := Lib.hid (by rw [HE.out, List.length_append, List.length_take, List.length_cons, List.length_drop]; have := HN.out; omega)
              clear hw5 hbo HX HXV ho5 hone hcl5
              obtain ⟨s7, w7, hrun7, ho7, hg7, hb7⟩ := run_append_cells (w5.alloc (.cells #[] 57)) 33 w5.heap.size (by simp) (made0 (w0 := w5) (e := 57) (size := 2) rfl (Nat.le_refl _)) (HSD.out.below (below_new _ _)) (by omega)
              go_wp2_with (at_builtin; go_must (refine Lib.wpList_append_run _ rfl _ _ 33 33 rfl _ _ rfl rfl s7 w7 hrun7 ?_))
              have k7 : Below w5.heap.size w5 w7 := (below_new _ _).trans hb7
              have HS7 : Hid (SrcOf w7 s7 (N - k) LDc) := Lib.hid (by have := src_own ho7 (by simpa using hLD1); simpa using this)
              clear hrun7 ho7 hg7 hb7
              go_upto_region 14 with fail
              refine wp_region_d 14 (fun w' => w'.cell? ⟨wo.heap.size, 0, none⟩ = some (.string K) ∧ w'.cell? ⟨wo.heap.size + 1, 0, none⟩ = some (.int .i64 t) ∧ w'.cell? ⟨wo.heap.size + 1, 1, none⟩ = some (.string V) ∧ w'.cell? ⟨wo.heap.size + 1, 2, none⟩ = some (.bool G)) (by kernel_rfl) ?_
              obtain ⟨w8, hw8⟩ : ∃ w8, w7.drew = w8 := ⟨_, rfl⟩
              have k8 : Below w5.heap.size w5 w8 := by rw [← hw8]; exact k7.drew
              have b78 : Below w7.heap.size w7 w8 := by rw [← hw8]; exact (Below.refl _ _).drew
              rw [hw8]
              clear hw8
              have hS8 : Hid (∀ u, Below w8.heap.size w8 u → u.cell? ⟨wo.heap.size, 0, none⟩ = some (.string K) ∧ u.cell? ⟨wo.heap.size + 1, 0, none⟩ = some (.int .i64 t) ∧ u.cell? ⟨wo.heap.size + 1, 1, none⟩ = some (.string V) ∧ u.cell? ⟨wo.heap.size + 1, 2, none⟩ = some (.bool G)) := Lib.hid fun u b => ⟨((BX5.below k8).below b).cell 0 rfl, ((BV5.below k8).below b).cell 0 rfl, ((BV5.below k8).below b).cell 1 rfl, ((BV5.below k8).below b).cell 2 rfl⟩
              have hS := hS8.out w8 (Below.refl _ _)
              have HS8 : Hid (∀ u, Below w8.heap.size w8 u → SrcOf u s7 (N - k) LDc) := Lib.hid fun u b => (HS7.out.below b78).below b
              have HT8 : Hid (∀ u, Below w8.heap.size w8 u → SrcOf u (.slice (some ⟨g, 0, none⟩) k cap) k LTc) := Lib.hid fun u b => (HST.out.below k8).below b
              have hz8 : w5.heap.size ≤ w8.heap.size := k8.size
              clear HS7 k7 b78
              refine d_take (f := 30) (v := ?_) 1 rfl (by kernel_rfl) (fun _ _ _ h => h) (Or.inl ⟨by rfl, ?_⟩) hS ?_
              rotate_left
              · intro wx hx
                obtain ⟨x0, x1, x2, x3⟩ := hx
                first | (go_simp; done) | (go_simp; with_reducible rfl)
              simp only [Act.put, List.setIfInBounds_toArray]
              refine d_take (f := 30) (v := ?_) 2 rfl (by kernel_rfl) (fun _ _ _ h => h) (Or.inl ⟨by rfl, ?_⟩) hS ?_
              rotate_left
              · intro wx hx
                obtain ⟨x0, x1, x2, x3⟩ := hx
                first | (go_simp; done) | (go_simp; with_reducible rfl)
              simp only [Act.put]
              refine d_take (f := 30) (v := ?_) 3 rfl (by kernel_rfl) (fun _ _ _ h => h) (Or.inl ⟨by rfl, ?_⟩) hS ?_
              rotate_left
              · intro wx hx
                obtain ⟨x0, x1, x2, x3⟩ := hx
                first | (go_simp; done) | (go_simp; with_reducible rfl)
              simp only [Act.put]
              refine d_take (f := 30) (v := ?_) 5 rfl (by kernel_rfl) (fun _ _ _ h => h) (Or.inl ⟨by rfl, ?_⟩) hS ?_
              rotate_left
              · intro wx hx
                obtain ⟨x0, x1, x2, x3⟩ := hx
                first | (go_simp; done) | (go_simp; with_reducible rfl)
              simp only [Act.put]
              refine d_take (f := 30) (v := ?_) 6 rfl (by kernel_rfl) (fun _ _ _ h => h) (Or.inl ⟨by rfl, ?_⟩) hS ?_
              rotate_left
              · intro wx hx
                obtain ⟨x0, x1, x2, x3⟩ := hx
                first | (go_simp; done) | (go_simp; with_reducible rfl)
              simp only [Act.put]
              refine d_take (f := 30) (v := ?_) 7 rfl (by kernel_rfl) (fun _ _ _ h => h) (Or.inl ⟨by rfl, ?_⟩) hS ?_
              rotate_left
              · intro wx hx
                obtain ⟨x0, x1, x2, x3⟩ := hx
                first | (go_simp; done) | (go_simp; with_reducible rfl)
              simp only [Act.put]
              refine d_take (f := 30) (v := ?_) 12 rfl (by kernel_rfl) (fun _ _ _ h => h) (Or.inl ⟨by rfl, ?_⟩) hS ?_
              rotate_left
              · intro wx hx
                obtain ⟨x0, x1, x2, x3⟩ := hx
                first | (go_simp; done) | (go_simp; with_reducible rfl)
              simp only [Act.put]
              have kw8 : Below w8.heap.size w8 w8 := Below.refl _ _
              refine d_two 0 8 (by kernel_rfl) rfl rfl (fun KK hK => ?_) (fun KK hK => ?_)
              · skip
                go_simp
                generalize hA : World.alloc _ _ = u1
                have PE : u1.ownsRow w8.heap.size 57 2 (.slice (some ⟨w8.heap.size, 0, none⟩) 0 0) 0 [] := by rw [← hA]; exact made0 rfl (Nat.le_refl _)
                have bu1 : Below w8.heap.size w8 u1 := by rw [← hA]; exact below_new _ _
                have ku1 : Below w8.heap.size w8 u1 := below_after bu1 kw8
                have hzu1 : w8.heap.size ≤ u1.heap.size := ku1.size
                have hyu1 : w8.heap.size ≤ u1.heap.size := bu1.size
                have hEB : w8.heap.size < u1.heap.size := (PE.lt _ rfl).2
                clear hA
                refine hK.out _ _ (fun _ => hS8.out u1 ku1) ?_
                clear hK KK
                try simp only [Act.put, List.setIfInBounds_toArray, List.set_cons_zero, List.set_cons_succ]
                refine d_two 4 8 (by kernel_rfl) rfl rfl (fun KK hK => ?_) (fun KK hK => ?_)
                · skip
                  obtain ⟨su2, u2, hrun, Pu2, gu2, kku2⟩ := run_append_cells u1 33 w8.heap.size (by first | exact Nat.le_refl _ | omega) PE (HT8.out _ ku1) (by omega)
                  refine step_append_eq rfl _ _ 33 rfl _ _ (by simp [Act.eval]) (by simp [Act.eval]) hrun ?_
                  have ku2 : Below w8.heap.size w8 u2 := ku1.trans (kku2.mono (by first | exact Nat.le_refl _ | omega))
                  have hzu2 : w8.heap.size ≤ u2.heap.size := ku2.size
                  have hyu2 : u1.heap.size ≤ u2.heap.size := kku2.size
                  clear hrun
                  refine hK.out _ _ (fun _ => hS8.out u2 ku2) ?_
                  clear hK KK
                  try simp only [Act.put, List.setIfInBounds_toArray]
                  have gEu2 : u1.grownBy u2 (some w8.heap.size) := gu2
                  have PL := Pu2
                  clear Pu2 PE
                  refine d_step 8 (by kernel_rfl) rfl (fun KK hK => ?_)
                  go_simp
                  generalize hA : World.alloc _ _ = u3
                  have XV : Blk u3 u2.heap.size 77 #[.int .i64 t, .string V, .bool G] := by rw [← hA]; exact Blk.new _ _ _
                  have bu3 : Below u2.heap.size u2 u3 := by rw [← hA]; exact below_new _ _
                  have ku3 : Below w8.heap.size w8 u3 := below_after bu3 ku2
                  have hzu3 : w8.heap.size ≤ u3.heap.size := ku3.size
                  have hyu3 : u2.heap.size ≤ u3.heap.size := bu3.size
                  have hVB : u2.heap.size < u3.heap.size := XV.lt
                  clear hA
                  refine hK.out _ _ (fun _ => hS8.out u3 ku3) ?_
                  clear hK KK
                  try simp only [Act.put, List.setIfInBounds_toArray, List.set_cons_zero, List.set_cons_succ]
                  have hS := hS8.out _ ku3
                  refine d_takeY (v := ?_) 9 rfl (by kernel_rfl) (fun _ _ _ h => h) (Or.inl ⟨by rfl, ?_⟩) hS ?_
                  rotate_left
                  · intro wx _
                    first | (go_simp; done) | (go_simp; with_reducible rfl)
                  simp only [Act.put, List.setIfInBounds_toArray]
                  clear hS
                  replace PL := own_below PL bu3
                  refine d_step 10 (by kernel_rfl) rfl (fun KK hK => ?_)
                  go_simp
                  generalize hA : World.alloc _ _ = u4
                  have XB : Blk u4 u3.heap.size 57 #[.string K, .slice (some ⟨u2.heap.size, 0, none⟩) 1 1] := by rw [← hA]; exact Blk.new _ _ _
                  have bu4 : Below u3.heap.size u3 u4 := by rw [← hA]; exact below_new _ _
                  have ku4 : Below w8.heap.size w8 u4 := below_after bu4 ku3
                  have hzu4 : w8.heap.size ≤ u4.heap.size := ku4.size
                  have hyu4 : u3.heap.size ≤ u4.heap.size := bu4.size
                  have hBB : u3.heap.size < u4.heap.size := XB.lt
                  clear hA
                  refine hK.out _ _ (fun _ => hS8.out u4 ku4) ?_
                  clear hK KK
                  try simp only [Act.put, List.setIfInBounds_toArray, List.set_cons_zero, List.set_cons_succ]
                  replace PL := own_below PL bu4
                  replace XV := XV.below bu4
                  refine d_step 11 (by kernel_rfl) rfl (fun KK hK => ?_)
                  obtain ⟨swy, wy, hrun, Pwy, gwy, kkwy⟩ := run_append_cells u4 33 w8.heap.size (by first | exact Nat.le_refl _ | omega) PL (src_box XB (by simp [Value.oneCell'])) (by omega)
                  refine step_append_eq rfl _ _ 33 rfl _ _ (by simp [Act.eval]) (by simp [Act.eval]) hrun ?_
                  have kwy : Below w8.heap.size w8 wy := ku4.trans (kkwy.mono (by first | exact Nat.le_refl _ | omega))
                  have hzwy : w8.heap.size ≤ wy.heap.size := kwy.size
                  have hywy : u4.heap.size ≤ wy.heap.size := kkwy.size
                  clear hrun
                  refine hK.out _ _ (fun _ => hS8.out wy kwy) ?_
                  clear hK KK
                  try simp only [Act.put, List.setIfInBounds_toArray]
                  have XV3 := XV.of (gwy.block _ XV.lt (row_ne PL XV (by decide)))
                  refine d_step 13 (by kernel_rfl) rfl (fun KK hK => ?_)
                  obtain ⟨swz, wz, hrun, Pwz, gwz, kkwz⟩ := run_append_cells wy 33 w8.heap.size (by first | exact Nat.le_refl _ | omega) Pwy (HS8.out _ kwy) (by omega)
                  refine step_append_eq rfl _ _ 33 rfl _ _ (by simp [Act.eval]) (by simp [Act.eval]) hrun ?_
                  have kwz : Below w8.heap.size w8 wz := kwy.trans (kkwz.mono (by first | exact Nat.le_refl _ | omega))
                  have hzwz : w8.heap.size ≤ wz.heap.size := kwz.size
                  have hywz : wy.heap.size ≤ wz.heap.size := kkwz.size
                  clear hrun
                  refine hK.out _ _ (fun _ => hS8.out wz kwz) ?_
                  clear hK KK
                  try simp only [Act.put]
                  have XV4 := XV3.of (gwz.block _ XV3.lt (row_ne Pwy XV3 (by decide)))
                  have HP9 : Hid (∃ c9, PartC Cod.cellR wz w.heap.size 57 swz (N + 1) (putC t x mm) c9) := Lib.hid (ins_fresh HP5.out HN.out hkN hbw5 hz8 (by omega) HE.out hLT hLD Hnd.out XV4 Hver.out z0 Pwz (below_after kwz k8) (by omega))
                  have bw9 : Below w.heap.size w wz := below_after (below_after kwz k8) Hb5
                  clear XV XV3 XV4 XB PL Pwy Pwz gwy gwz kkwy kkwz
                  refine d_step 14 (by kernel_rfl) rfl (fun KK hK => ?_)
                  go_simp
                  refine hK.out _ _ (fun h => by exact absurd h (by decide)) ?_
                  clear hK KK
                  refine d_done (by kernel_rfl) ?_ _
                  try simp only [Act.put, List.setIfInBounds_toArray, List.set_cons_zero, List.set_cons_succ]
                  obtain ⟨c9, hP9⟩ := HP9.out
                  have HP10 := Lib.hid hP9
                  clear hP9 HP9
                  go_wp2
                  go_roundw
                  case rel => exact ⟨ki + 1, _, putC t x mm, c9, N + 1, rfl, by go_num, by omega, Hf2, HlenN, HP10, bw9⟩
                  case measure => simp [intOf]; omega
                · skip
                  go_simp
                  generalize hA : World.alloc _ _ = u5
                  have XV : Blk u5 u1.heap.size 77 #[.int .i64 t, .string V, .bool G] := by rw [← hA]; exact Blk.new _ _ _
                  have bu5 : Below u1.heap.size u1 u5 := by rw [← hA]; exact below_new _ _
                  have ku5 : Below w8.heap.size w8 u5 := below_after bu5 ku1
                  have hzu5 : w8.heap.size ≤ u5.heap.size := ku5.size
                  have hyu5 : u1.heap.size ≤ u5.heap.size := bu5.size
                  have hVB : u1.heap.size < u5.heap.size := XV.lt
                  clear hA
                  refine hK.out _ _ (fun _ => hS8.out u5 ku5) ?_
                  clear hK KK
                  try simp only [Act.put, List.setIfInBounds_toArray, List.set_cons_zero, List.set_cons_succ]
                  have hS := hS8.out _ ku5
                  refine d_takeY (v := ?_) 9 rfl (by kernel_rfl) (fun _ _ _ h => h) (Or.inl ⟨by rfl, ?_⟩) hS ?_
                  rotate_left
                  · intro wx _
                    first | (go_simp; done) | (go_simp; with_reducible rfl)
                  simp only [Act.put, List.setIfInBounds_toArray]
                  clear hS
                  replace PE := own_below PE bu5
                  refine d_two 4 10 (by kernel_rfl) rfl rfl (fun KK hK => ?_) (fun KK hK => ?_)
                  · skip
                    obtain ⟨su6, u6, hrun, Pu6, gu6, kku6⟩ := run_append_cells u5 33 w8.heap.size (by first | exact Nat.le_refl _ | omega) PE (HT8.out _ ku5) (by omega)
                    refine step_append_eq rfl _ _ 33 rfl _ _ (by simp [Act.eval]) (by simp [Act.eval]) hrun ?_
                    have ku6 : Below w8.heap.size w8 u6 := ku5.trans (kku6.mono (by first | exact Nat.le_refl _ | omega))
                    have hzu6 : w8.heap.size ≤ u6.heap.size := ku6.size
                    have hyu6 : u5.heap.size ≤ u6.heap.size := kku6.size
                    clear hrun
                    refine hK.out _ _ (fun _ => hS8.out u6 ku6) ?_
                    clear hK KK
                    try simp only [Act.put]
                    have gEu6 : u5.grownBy u6 (some w8.heap.size) := gu6
                    have PL := Pu6
                    clear Pu6 PE
                    replace XV := XV.grown gEu6 (by omega)
                    refine d_step 10 (by kernel_rfl) rfl (fun KK hK => ?_)
                    go_simp
                    generalize hA : World.alloc _ _ = u7
                    have XB : Blk u7 u6.heap.size 57 #[.string K, .slice (some ⟨u1.heap.size, 0, none⟩) 1 1] := by rw [← hA]; exact Blk.new _ _ _
                    have bu7 : Below u6.heap.size u6 u7 := by rw [← hA]; exact below_new _ _
                    have ku7 : Below w8.heap.size w8 u7 := below_after bu7 ku6
                    have hzu7 : w8.heap.size ≤ u7.heap.size := ku7.size
                    have hyu7 : u6.heap.size ≤ u7.heap.size := bu7.size
                    have hBB : u6.heap.size < u7.heap.size := XB.lt
                    clear hA
                    refine hK.out _ _ (fun _ => hS8.out u7 ku7) ?_
                    clear hK KK
                    try simp only [Act.put, List.setIfInBounds_toArray, List.set_cons_zero, List.set_cons_succ]
                    replace PL := own_below PL bu7
                    replace XV := XV.below bu7
                    refine d_step 11 (by kernel_rfl) rfl (fun KK hK => ?_)
                    obtain ⟨swy, wy, hrun, Pwy, gwy, kkwy⟩ := run_append_cells u7 33 w8.heap.size (by first | exact Nat.le_refl _ | omega) PL (src_box XB (by simp [Value.oneCell'])) (by omega)
                    refine step_append_eq rfl _ _ 33 rfl _ _ (by simp [Act.eval]) (by simp [Act.eval]) hrun ?_
                    have kwy : Below w8.heap.size w8 wy := ku7.trans (kkwy.mono (by first | exact Nat.le_refl _ | omega))
                    have hzwy : w8.heap.size ≤ wy.heap.size := kwy.size
                    have hywy : u7.heap.size ≤ wy.heap.size := kkwy.size
                    clear hrun
                    refine hK.out _ _ (fun _ => hS8.out wy kwy) ?_
                    clear hK KK
                    try simp only [Act.put, List.setIfInBounds_toArray]
                    have XV3 := XV.of (gwy.block _ XV.lt (row_ne PL XV (by decide)))
                    refine d_step 13 (by kernel_rfl) rfl (fun KK hK => ?_)
                    obtain ⟨swz, wz, hrun, Pwz, gwz, kkwz⟩ := run_append_cells wy 33 w8.heap.size (by first | exact Nat.le_refl _ | omega) Pwy (HS8.out _ kwy) (by omega)
                    refine step_append_eq rfl _ _ 33 rfl _ _ (by simp [Act.eval]) (by simp [Act.eval]) hrun ?_
                    have kwz : Below w8.heap.size w8 wz := kwy.trans (kkwz.mono (by first | exact Nat.le_refl _ | omega))
                    have hzwz : w8.heap.size ≤ wz.heap.size := kwz.size
                    have hywz : wy.heap.size ≤ wz.heap.size := kkwz.size
                    clear hrun
                    refine hK.out _ _ (fun _ => hS8.out wz kwz) ?_
                    clear hK KK
                    try simp only [Act.put]
                    have XV4 := XV3.of (gwz.block _ XV3.lt (row_ne Pwy XV3 (by decide)))
                    have HP9 : Hid (∃ c9, PartC Cod.cellR wz w.heap.size 57 swz (N + 1) (putC t x mm) c9) := Lib.hid (ins_fresh HP5.out HN.out hkN hbw5 hz8 (by omega) HE.out hLT hLD Hnd.out XV4 Hver.out z0 Pwz (below_after kwz k8) (by omega))
                    have bw9 : Below w.heap.size w wz := below_after (below_after kwz k8) Hb5
                    clear XV XV3 XV4 XB PL Pwy Pwz gwy gwz kkwy kkwz
                    refine d_step 14 (by kernel_rfl) rfl (fun KK hK => ?_)
                    go_simp
                    refine hK.out _ _ (fun h => by exact absurd h (by decide)) ?_
                    clear hK KK
                    refine d_done (by kernel_rfl) ?_ _
                    try simp only [Act.put, List.setIfInBounds_toArray, List.set_cons_zero, List.set_cons_succ]
                    obtain ⟨c9, hP9⟩ := HP9.out
                    have HP10 := Lib.hid hP9
                    clear hP9 HP9
                    go_wp2
                    go_roundw
                    case rel => exact ⟨ki + 1, _, putC t x mm, c9, N + 1, rfl, by go_num, by omega, Hf2, HlenN, HP10, bw9⟩
                    case measure => simp [intOf]; omega
                  · skip
                    go_simp
                    generalize hA : World.alloc _ _ = u8
                    have XB : Blk u8 u5.heap.size 57 #[.string K, .slice (some ⟨u1.heap.size, 0, none⟩) 1 1] := by rw [← hA]; exact Blk.new _ _ _
                    have bu8 : Below u5.heap.size u5 u8 := by rw [← hA]; exact below_new _ _
                    have ku8 : Below w8.heap.size w8 u8 := below_after bu8 ku5
                    have hzu8 : w8.heap.size ≤ u8.heap.size := ku8.size
                    have hyu8 : u5.heap.size ≤ u8.heap.size := bu8.size
                    have hBB : u5.heap.size < u8.heap.size := XB.lt
                    clear hA
                    refine hK.out _ _ (fun _ => hS8.out u8 ku8) ?_
                    clear hK KK
                    try simp only [Act.put, List.setIfInBounds_toArray, List.set_cons_zero, List.set_cons_succ]
                    replace PE := own_below PE bu8
                    replace XV := XV.below bu8
                    refine d_step 4 (by kernel_rfl) rfl (fun KK hK => ?_)
                    obtain ⟨su9, u9, hrun, Pu9, gu9, kku9⟩ := run_append_cells u8 33 w8.heap.size (by first | exact Nat.le_refl _ | omega) PE (HT8.out _ ku8) (by omega)
                    refine step_append_eq rfl _ _ 33 rfl _ _ (by simp [Act.eval]) (by simp [Act.eval]) hrun ?_
                    have ku9 : Below w8.heap.size w8 u9 := ku8.trans (kku9.mono (by first | exact Nat.le_refl _ | omega))
                    have hzu9 : w8.heap.size ≤ u9.heap.size := ku9.size
                    have hyu9 : u8.heap.size ≤ u9.heap.size := kku9.size
                    clear hrun
                    refine hK.out _ _ (fun _ => hS8.out u9 ku9) ?_
                    clear hK KK
                    try simp only [Act.put, List.setIfInBounds_toArray]
                    have gEu9 : u8.grownBy u9 (some w8.heap.size) := gu9
                    have PL := Pu9
                    clear Pu9 PE
                    replace XV := XV.grown gEu9 (by omega)
                    replace XB := XB.grown gEu9 (by omega)
                    refine d_step 11 (by kernel_rfl) rfl (fun KK hK => ?_)
                    obtain ⟨swy, wy, hrun, Pwy, gwy, kkwy⟩ := run_append_cells u9 33 w8.heap.size (by first | exact Nat.le_refl _ | omega) PL (src_box XB (by simp [Value.oneCell'])) (by omega)
                    refine step_append_eq rfl _ _ 33 rfl _ _ (by simp [Act.eval]) (by simp [Act.eval]) hrun ?_
                    have kwy : Below w8.heap.size w8 wy := ku9.trans (kkwy.mono (by first | exact Nat.le_refl _ | omega))
                    have hzwy : w8.heap.size ≤ wy.heap.size := kwy.size
                    have hywy : u9.heap.size ≤ wy.heap.size := kkwy.size
                    clear hrun
                    refine hK.out _ _ (fun _ => hS8.out wy kwy) ?_
                    clear hK KK
                    try simp only [Act.put]
                    have XV3 := XV.of (gwy.block _ XV.lt (row_ne PL XV (by decide)))
                    refine d_step 13 (by kernel_rfl) rfl (fun KK hK => ?_)
                    obtain ⟨swz, wz, hrun, Pwz, gwz, kkwz⟩ := run_append_cells wy 33 w8.heap.size (by first | exact Nat.le_refl _ | omega) Pwy (HS8.out _ kwy) (by omega)
                    refine step_append_eq rfl _ _ 33 rfl _ _ (by simp [Act.eval]) (by simp [Act.eval]) hrun ?_
                    have kwz : Below w8.heap.size w8 wz := kwy.trans (kkwz.mono (by first | exact Nat.le_refl _ | omega))
                    have hzwz : w8.heap.size ≤ wz.heap.size := kwz.size
                    have hywz : wy.heap.size ≤ wz.heap.size := kkwz.size
                    clear hrun
                    refine hK.out _ _ (fun _ => hS8.out wz kwz) ?_
                    clear hK KK
                    try simp only [Act.put]
                    have XV4 := XV3.of (gwz.block _ XV3.lt (row_ne Pwy XV3 (by decide)))
                    have HP9 : Hid (∃ c9, PartC Cod.cellR wz w.heap.size 57 swz (N + 1) (putC t x mm) c9) := Lib.hid (ins_fresh HP5.out HN.out hkN hbw5 hz8 (by omega) HE.out hLT hLD Hnd.out XV4 Hver.out z0 Pwz (below_after kwz k8) (by omega))
                    have bw9 : Below w.heap.size w wz := below_after (below_after kwz k8) Hb5
                    clear XV XV3 XV4 XB PL Pwy Pwz gwy gwz kkwy kkwz
                    refine d_step 14 (by kernel_rfl) rfl (fun KK hK => ?_)
                    go_simp
                    refine hK.out _ _ (fun h => by exact absurd h (by decide)) ?_
                    clear hK KK
                    refine d_done (by kernel_rfl) ?_ _
                    try simp only [Act.put, List.setIfInBounds_toArray, List.set_cons_zero, List.set_cons_succ]
                    obtain ⟨c9, hP9⟩ := HP9.out
                    have HP10 := Lib.hid hP9
                    clear hP9 HP9
                    go_wp2
                    go_roundw
                    case rel => exact ⟨ki + 1, _, putC t x mm, c9, N + 1, rfl, by go_num, by omega, Hf2, HlenN, HP10, bw9⟩
                    case measure => simp [intOf]; omega
              · skip
                go_simp
                generalize hA : World.alloc _ _ = u10
                have XV : Blk u10 w8.heap.size 77 #[.int .i64 t, .string V, .bool G] := by rw [← hA]; exact Blk.new _ _ _
                have bu10 : Below w8.heap.size w8 u10 := by rw [← hA]; exact below_new _ _
                have ku10 : Below w8.heap.size w8 u10 := below_after bu10 kw8
                have hzu10 : w8.heap.size ≤ u10.heap.size := ku10.size
                have hyu10 : w8.heap.size ≤ u10.heap.size := bu10.size
                have hVB : w8.heap.size < u10.heap.size := XV.lt
                clear hA
                refine hK.out _ _ (fun _ => hS8.out u10 ku10) ?_
                clear hK KK
                try simp only [Act.put, List.setIfInBounds_toArray, List.set_cons_zero, List.set_cons_succ]
                have hS := hS8.out _ ku10
                refine d_takeY (v := ?_) 9 rfl (by kernel_rfl) (fun _ _ _ h => h) (Or.inl ⟨by rfl, ?_⟩) hS ?_
                rotate_left
                · intro wx _
                  first | (go_simp; done) | (go_simp; with_reducible rfl)
                simp only [Act.put, List.setIfInBounds_toArray]
                clear hS
                refine d_two 0 10 (by kernel_rfl) rfl rfl (fun KK hK => ?_) (fun KK hK => ?_)
                · skip
                  go_simp
                  generalize hA : World.alloc _ _ = u11
                  have PE : u11.ownsRow u10.heap.size 57 2 (.slice (some ⟨u10.heap.size, 0, none⟩) 0 0) 0 [] := by rw [← hA]; exact made0 rfl (Nat.le_refl _)
                  have bu11 : Below u10.heap.size u10 u11 := by rw [← hA]; exact below_new _ _
                  have ku11 : Below w8.heap.size w8 u11 := below_after bu11 ku10
                  have hzu11 : w8.heap.size ≤ u11.heap.size := ku11.size
                  have hyu11 : u10.heap.size ≤ u11.heap.size := bu11.size
                  have hEB : u10.heap.size < u11.heap.size := (PE.lt _ rfl).2
                  clear hA
                  refine hK.out _ _ (fun _ => hS8.out u11 ku11) ?_
                  clear hK KK
                  try simp only [Act.put, List.setIfInBounds_toArray, List.set_cons_zero, List.set_cons_succ]
                  replace XV := XV.below bu11
                  refine d_two 4 10 (by kernel_rfl) rfl rfl (fun KK hK => ?_) (fun KK hK => ?_)
                  · skip
                    obtain ⟨su12, u12, hrun, Pu12, gu12, kku12⟩ := run_append_cells u11 33 u10.heap.size (by first | exact Nat.le_refl _ | omega) PE (HT8.out _ ku11) (by omega)
                    refine step_append_eq rfl _ _ 33 rfl _ _ (by simp [Act.eval]) (by simp [Act.eval]) hrun ?_
                    have ku12 : Below w8.heap.size w8 u12 := ku11.trans (kku12.mono (by first | exact Nat.le_refl _ | omega))
                    have hzu12 : w8.heap.size ≤ u12.heap.size := ku12.size
                    have hyu12 : u11.heap.size ≤ u12.heap.size := kku12.size
                    clear hrun
                    refine hK.out _ _ (fun _ => hS8.out u12 ku12) ?_
                    clear hK KK
                    try simp only [Act.put, List.setIfInBounds_toArray]
                    have gEu12 : u11.grownBy u12 (some u10.heap.size) := gu12
                    have PL := Pu12
                    clear Pu12 PE
                    replace XV := XV.grown gEu12 (by omega)
                    refine d_step 10 (by kernel_rfl) rfl (fun KK hK => ?_)
                    go_simp
                    generalize hA : World.alloc _ _ = u13
                    have XB : Blk u13 u12.heap.size 57 #[.string K, .slice (some ⟨w8.heap.size, 0, none⟩) 1 1] := by rw [← hA]; exact Blk.new _ _ _
                    have bu13 : Below u12.heap.size u12 u13 := by rw [← hA]; exact below_new _ _
                    have ku13 : Below w8.heap.size w8 u13 := below_after bu13 ku12
                    have hzu13 : w8.heap.size ≤ u13.heap.size := ku13.size
                    have hyu13 : u12.heap.size ≤ u13.heap.size := bu13.size
                    have hBB : u12.heap.size < u13.heap.size := XB.lt
                    clear hA
                    refine hK.out _ _ (fun _ => hS8.out u13 ku13) ?_
                    clear hK KK
                    try simp only [Act.put, List.setIfInBounds_toArray, List.set_cons_zero, List.set_cons_succ]
                    replace PL := own_below PL bu13
                    replace XV := XV.below bu13
                    refine d_step 11 (by kernel_rfl) rfl (fun KK hK => ?_)
                    obtain ⟨swy, wy, hrun, Pwy, gwy, kkwy⟩ := run_append_cells u13 33 u10.heap.size (by first | exact Nat.le_refl _ | omega) PL (src_box XB (by simp [Value.oneCell'])) (by omega)
                    refine step_append_eq rfl _ _ 33 rfl _ _ (by simp [Act.eval]) (by simp [Act.eval]) hrun ?_
                    have kwy : Below w8.heap.size w8 wy := ku13.trans (kkwy.mono (by first | exact Nat.le_refl _ | omega))
                    have hzwy : w8.heap.size ≤ wy.heap.size := kwy.size
                    have hywy : u13.heap.size ≤ wy.heap.size := kkwy.size
                    clear hrun
                    refine hK.out _ _ (fun _ => hS8.out wy kwy) ?_
                    clear hK KK
                    try simp only [Act.put, List.setIfInBounds_toArray]
                    have XV3 := XV.of (gwy.block _ XV.lt (row_ne PL XV (by decide)))
                    refine d_step 13 (by kernel_rfl) rfl (fun KK hK => ?_)
                    obtain ⟨swz, wz, hrun, Pwz, gwz, kkwz⟩ := run_append_cells wy 33 u10.heap.size (by first | exact Nat.le_refl _ | omega) Pwy (HS8.out _ kwy) (by omega)
                    refine step_append_eq rfl _ _ 33 rfl _ _ (by simp [Act.eval]) (by simp [Act.eval]) hrun ?_
                    have kwz : Below w8.heap.size w8 wz := kwy.trans (kkwz.mono (by first | exact Nat.le_refl _ | omega))
                    have hzwz : w8.heap.size ≤ wz.heap.size := kwz.size
                    have hywz : wy.heap.size ≤ wz.heap.size := kkwz.size
                    clear hrun
                    refine hK.out _ _ (fun _ => hS8.out wz kwz) ?_
                    clear hK KK
                    try simp only [Act.put]
                    have XV4 := XV3.of (gwz.block _ XV3.lt (row_ne Pwy XV3 (by decide)))
                    have HP9 : Hid (∃ c9, PartC Cod.cellR wz w.heap.size 57 swz (N + 1) (putC t x mm) c9) := Lib.hid (ins_fresh HP5.out HN.out hkN hbw5 hz8 (by omega) HE.out hLT hLD Hnd.out XV4 Hver.out z0 Pwz (below_after kwz k8) (by omega))
                    have bw9 : Below w.heap.size w wz := below_after (below_after kwz k8) Hb5
                    clear XV XV3 XV4 XB PL Pwy Pwz gwy gwz kkwy kkwz
                    refine d_step 14 (by kernel_rfl) rfl (fun KK hK => ?_)
                    go_simp
                    refine hK.out _ _ (fun h => by exact absurd h (by decide)) ?_
                    clear hK KK
                    refine d_done (by kernel_rfl) ?_ _
                    try simp only [Act.put, List.setIfInBounds_toArray, List.set_cons_zero, List.set_cons_succ]
                    obtain ⟨c9, hP9⟩ := HP9.out
                    have HP10 := Lib.hid hP9
                    clear hP9 HP9
                    go_wp2
                    go_roundw
                    case rel => exact ⟨ki + 1, _, putC t x mm, c9, N + 1, rfl, by go_num, by omega, Hf2, HlenN, HP10, bw9⟩
                    case measure => simp [intOf]; omega
                  · skip
                    go_simp
                    generalize hA : World.alloc _ _ = u14
                    have XB : Blk u14 u11.heap.size 57 #[.string K, .slice (some ⟨w8.heap.size, 0, none⟩) 1 1] := by rw [← hA]; exact Blk.new _ _ _
                    have bu14 : Below u11.heap.size u11 u14 := by rw [← hA]; exact below_new _ _
                    have ku14 : Below w8.heap.size w8 u14 := below_after bu14 ku11
                    have hzu14 : w8.heap.size ≤ u14.heap.size := ku14.size
                    have hyu14 : u11.heap.size ≤ u14.heap.size := bu14.size
                    have hBB : u11.heap.size < u14.heap.size := XB.lt
                    clear hA
                    refine hK.out _ _ (fun _ => hS8.out u14 ku14) ?_
                    clear hK KK
                    try simp only [Act.put, List.setIfInBounds_toArray, List.set_cons_zero, List.set_cons_succ]
                    replace PE := own_below PE bu14
                    replace XV := XV.below bu14
                    refine d_step 4 (by kernel_rfl) rfl (fun KK hK => ?_)
                    obtain ⟨su15, u15, hrun, Pu15, gu15, kku15⟩ := run_append_cells u14 33 u10.heap.size (by first | exact Nat.le_refl _ | omega) PE (HT8.out _ ku14) (by omega)
                    refine step_append_eq rfl _ _ 33 rfl _ _ (by simp [Act.eval]) (by simp [Act.eval]) hrun ?_
                    have ku15 : Below w8.heap.size w8 u15 := ku14.trans (kku15.mono (by first | exact Nat.le_refl _ | omega))
                    have hzu15 : w8.heap.size ≤ u15.heap.size := ku15.size
                    have hyu15 : u14.heap.size ≤ u15.heap.size := kku15.size
                    clear hrun
                    refine hK.out _ _ (fun _ => hS8.out u15 ku15) ?_
                    clear hK KK
                    try simp only [Act.put, List.setIfInBounds_toArray]
                    have gEu15 : u14.grownBy u15 (some u10.heap.size) := gu15
                    have PL := Pu15
                    clear Pu15 PE
                    replace XV := XV.grown gEu15 (by omega)
                    replace XB := XB.grown gEu15 (by omega)
                    refine d_step 11 (by kernel_rfl) rfl (fun KK hK => ?_)
                    obtain ⟨swy, wy, hrun, Pwy, gwy, kkwy⟩ := run_append_cells u15 33 u10.heap.size (by first | exact Nat.le_refl _ | omega) PL (src_box XB (by simp [Value.oneCell'])) (by omega)
                    refine step_append_eq rfl _ _ 33 rfl _ _ (by simp [Act.eval]) (by simp [Act.eval]) hrun ?_
                    have kwy : Below w8.heap.size w8 wy := ku15.trans (kkwy.mono (by first | exact Nat.le_refl _ | omega))
                    have hzwy : w8.heap.size ≤ wy.heap.size := kwy.size
                    have hywy : u15.heap.size ≤ wy.heap.size := kkwy.size
                    clear hrun
                    refine hK.out _ _ (fun _ => hS8.out wy kwy) ?_
                    clear hK KK
                    try simp only [Act.put]
                    have XV3 := XV.of (gwy.block _ XV.lt (row_ne PL XV (by decide)))
                    refine d_step 13 (by kernel_rfl) rfl (fun KK hK => ?_)
                    obtain ⟨swz, wz, hrun, Pwz, gwz, kkwz⟩ := run_append_cells wy 33 u10.heap.size (by first | exact Nat.le_refl _ | omega) Pwy (HS8.out _ kwy) (by omega)
                    refine step_append_eq rfl _ _ 33 rfl _ _ (by simp [Act.eval]) (by simp [Act.eval]) hrun ?_
                    have kwz : Below w8.heap.size w8 wz := kwy.trans (kkwz.mono (by first | exact Nat.le_refl _ | omega))
                    have hzwz : w8.heap.size ≤ wz.heap.size := kwz.size
                    have hywz : wy.heap.size ≤ wz.heap.size := kkwz.size
                    clear hrun
                    refine hK.out _ _ (fun _ => hS8.out wz kwz) ?_
                    clear hK KK
                    try simp only [Act.put]
                    have XV4 := XV3.of (gwz.block _ XV3.lt (row_ne Pwy XV3 (by decide)))
                    have HP9 : Hid (∃ c9, PartC Cod.cellR wz w.heap.size 57 swz (N + 1) (putC t x mm) c9) := Lib.hid (ins_fresh HP5.out HN.out hkN hbw5 hz8 (by omega) HE.out hLT hLD Hnd.out XV4 Hver.out z0 Pwz (below_after kwz k8) (by omega))
                    have bw9 : Below w.heap.size w wz := below_after (below_after kwz k8) Hb5
                    clear XV XV3 XV4 XB PL Pwy Pwz gwy gwz kkwy kkwz
                    refine d_step 14 (by kernel_rfl) rfl (fun KK hK => ?_)
                    go_simp
                    refine hK.out _ _ (fun h => by exact absurd h (by decide)) ?_
                    clear hK KK
                    refine d_done (by kernel_rfl) ?_ _
                    try simp only [Act.put, List.setIfInBounds_toArray, List.set_cons_zero, List.set_cons_succ]
                    obtain ⟨c9, hP9⟩ := HP9.out
                    have HP10 := Lib.hid hP9
                    clear hP9 HP9
                    go_wp2
                    go_roundw
                    case rel => exact ⟨ki + 1, _, putC t x mm, c9, N + 1, rfl, by go_num, by omega, Hf2, HlenN, HP10, bw9⟩
                    case measure => simp [intOf]; omega
                · skip
                  go_simp
                  generalize hA : World.alloc _ _ = u16
                  have XB : Blk u16 u10.heap.size 57 #[.string K, .slice (some ⟨w8.heap.size, 0, none⟩) 1 1] := by rw [← hA]; exact Blk.new _ _ _
                  have bu16 : Below u10.heap.size u10 u16 := by rw [← hA]; exact below_new _ _
                  have ku16 : Below w8.heap.size w8 u16 := below_after bu16 ku10
                  have hzu16 : w8.heap.size ≤ u16.heap.size := ku16.size
                  have hyu16 : u10.heap.size ≤ u16.heap.size := bu16.size
                  have hBB : u10.heap.size < u16.heap.size := XB.lt
                  clear hA
                  refine hK.out _ _ (fun _ => hS8.out u16 ku16) ?_
                  clear hK KK
                  try simp only [Act.put, List.setIfInBounds_toArray, List.set_cons_zero, List.set_cons_succ]
                  replace XV := XV.below bu16
                  refine d_step 0 (by kernel_rfl) rfl (fun KK hK => ?_)
                  go_simp
                  generalize hA : World.alloc _ _ = u17
                  have PE : u17.ownsRow u16.heap.size 57 2 (.slice (some ⟨u16.heap.size, 0, none⟩) 0 0) 0 [] := by rw [← hA]; exact made0 rfl (Nat.le_refl _)
                  have bu17 : Below u16.heap.size u16 u17 := by rw [← hA]; exact below_new _ _
                  have ku17 : Below w8.heap.size w8 u17 := below_after bu17 ku16
                  have hzu17 : w8.heap.size ≤ u17.heap.size := ku17.size
                  have hyu17 : u16.heap.size ≤ u17.heap.size := bu17.size
                  have hEB : u16.heap.size < u17.heap.size := (PE.lt _ rfl).2
                  clear hA
                  refine hK.out _ _ (fun _ => hS8.out u17 ku17) ?_
                  clear hK KK
                  try simp only [Act.put, List.setIfInBounds_toArray, List.set_cons_zero, List.set_cons_succ]
                  replace XV := XV.below bu17
                  replace XB := XB.below bu17
                  refine d_step 4 (by kernel_rfl) rfl (fun KK hK => ?_)
                  obtain ⟨su18, u18, hrun, Pu18, gu18, kku18⟩ := run_append_cells u17 33 u16.heap.size (by first | exact Nat.le_refl _ | omega) PE (HT8.out _ ku17) (by omega)
                  refine step_append_eq rfl _ _ 33 rfl _ _ (by simp [Act.eval]) (by simp [Act.eval]) hrun ?_
                  have ku18 : Below w8.heap.size w8 u18 := ku17.trans (kku18.mono (by first | exact Nat.le_refl _ | omega))
                  have hzu18 : w8.heap.size ≤ u18.heap.size := ku18.size
                  have hyu18 : u17.heap.size ≤ u18.heap.size := kku18.size
                  clear hrun
                  refine hK.out _ _ (fun _ => hS8.out u18 ku18) ?_
                  clear hK KK
                  try simp only [Act.put, List.setIfInBounds_toArray]
                  have gEu18 : u17.grownBy u18 (some u16.heap.size) := gu18
                  have PL := Pu18
                  clear Pu18 PE
                  replace XV := XV.grown gEu18 (by omega)
                  replace XB := XB.grown gEu18 (by omega)
                  refine d_step 11 (by kernel_rfl) rfl (fun KK hK => ?_)
                  obtain ⟨swy, wy, hrun, Pwy, gwy, kkwy⟩ := run_append_cells u18 33 u16.heap.size (by first | exact Nat.le_refl _ | omega) PL (src_box XB (by simp [Value.oneCell'])) (by omega)
                  refine step_append_eq rfl _ _ 33 rfl _ _ (by simp [Act.eval]) (by simp [Act.eval]) hrun ?_
                  have kwy : Below w8.heap.size w8 wy := ku18.trans (kkwy.mono (by first | exact Nat.le_refl _ | omega))
                  have hzwy : w8.heap.size ≤ wy.heap.size := kwy.size
                  have hywy : u18.heap.size ≤ wy.heap.size := kkwy.size
                  clear hrun
                  refine hK.out _ _ (fun _ => hS8.out wy kwy) ?_
                  clear hK KK
                  try simp only [Act.put]
                  have XV3 := XV.of (gwy.block _ XV.lt (row_ne PL XV (by decide)))
                  refine d_step 13 (by kernel_rfl) rfl (fun KK hK => ?_)
                  obtain ⟨swz, wz, hrun, Pwz, gwz, kkwz⟩ := run_append_cells wy 33 u16.heap.size (by first | exact Nat.le_refl _ | omega) Pwy (HS8.out _ kwy) (by omega)
                  refine step_append_eq rfl _ _ 33 rfl _ _ (by simp [Act.eval]) (by simp [Act.eval]) hrun ?_
                  have kwz : Below w8.heap.size w8 wz := kwy.trans (kkwz.mono (by first | exact Nat.le_refl _ | omega))
                  have hzwz : w8.heap.size ≤ wz.heap.size := kwz.size
                  have hywz : wy.heap.size ≤ wz.heap.size := kkwz.size
                  clear hrun
                  refine hK.out _ _ (fun _ => hS8.out wz kwz) ?_
                  clear hK KK
                  try simp only [Act.put]
                  have XV4 := XV3.of (gwz.block _ XV3.lt (row_ne Pwy XV3 (by decide)))
                  have HP9 : Hid (∃ c9, PartC Cod.cellR wz w.heap.size 57 swz (N + 1) (putC t x mm) c9) := Lib.hid (ins_fresh HP5.out HN.out hkN hbw5 hz8 (by omega) HE.out hLT hLD Hnd.out XV4 Hver.out z0 Pwz (below_after kwz k8) (by omega))
                  have bw9 : Below w.heap.size w wz := below_after (below_after kwz k8) Hb5
                  clear XV XV3 XV4 XB PL Pwy Pwz gwy gwz kkwy kkwz
                  refine d_step 14 (by kernel_rfl) rfl (fun KK hK => ?_)
                  go_simp
                  refine hK.out _ _ (fun h => by exact absurd h (by decide)) ?_
                  clear hK KK
                  refine d_done (by kernel_rfl) ?_ _
                  try simp only [Act.put, List.setIfInBounds_toArray, List.set_cons_zero, List.set_cons_succ]
                  obtain ⟨c9, hP9⟩ := HP9.out
                  have HP10 := Lib.hid hP9
                  clear hP9 HP9
                  go_wp2
                  go_roundw
                  case rel => exact ⟨ki + 1, _, putC t x mm, c9, N + 1, rfl, by go_num, by omega, Hf2, HlenN, HP10, bw9⟩
                  case measure => simp [intOf]; omega
          · obtain ⟨m, hm⟩ : ∃ m, m + 1 = k := ⟨k - 1, by omega⟩
            have hml : m < mm.length := by have := HN.out; omega
            have d0 := (hbi.cell (p := ⟨g, m * 2, none⟩) hgl).trans (Hat.out m hml)
            have hk1 : 0 < (k : Int) := by omega
            have hkNn : 0 < k := by omega
            have hkm : (k : Int) - 1 = (m : Int) := by omega
            have hmn : (m : Int) < (N : Int) := by have := HN.out; omega
            have hm0 : (0 : Int) ≤ (m : Int) := by omega
            have hmI : (m : Int) ≤ 70000 := by omega
            have hmw : IntKind.i64.wrap (m : Int) = (m : Int) := by rw [IntKind.wrap_i64]; omega
            have Hm := Lib.hid hm
            have Hnx2 : Hid (ltB K mm[m].Key = true → ∀ j (h : j < mm.length), m ≤ j → ltB K mm[j].Key = true) := Lib.hid fun h j hj hmj => by
              by_cases e : j = m
              · subst e; exact h
              · exact Hall.out j hj (by omega)
            have HP1 : Hid (mm[m].Key = K → putC t x mm = mm.set m ⟨mm[m].Key, mm[m].Vers ++ [newV t x]⟩) := Lib.hid fun e => putC_found hml (by rw [e, HK.out]) fun j hj hjm => by
              have := HWk.out.rise j m hjm hml
              rw [e] at this
              rw [HK.out]
              exact this
            have HP2 : Hid (ltB K mm[m].Key = false → mm[m].Key ≠ K → HasNo mm K ∧ putC t x mm = mm.take k ++ ⟨K, [newV t x]⟩ :: mm.drop k) := Lib.hid fun h1 h2 => by
              have hlm : ltB mm[m].Key K = true := lt_total h1 h2
              refine Hnone.out k (by have := HN.out; omega) Hall.out fun j hj hjk => ?_
              by_cases e : j = m
              · subst e; exact hlm
              · exact ltB_trans (HWk.out.rise j m (by omega) hml) hlm
            obtain ⟨Vs, hVs⟩ : ∃ Vs, mm[m].Vers = Vs := ⟨_, rfl⟩
            obtain ⟨y, es⟩ : ∃ y, mm[m].Key = y := ⟨_, rfl⟩
            have Hes := Lib.hid es
            rw [es] at d0 Hnx2 HP1 HP2
            clear es hk0 hm
            have hle := leB_eq y K
            obtain ⟨b, hbb⟩ : ∃ b, ltB K y = b := ⟨_, rfl⟩
            rw [hbb] at Hnx2 HP2 hle
            clear hbb
            cases b
            · by_cases heq : y = K
              · obtain heq2 := heq.symm
                subst heq2
                have HE0 := Lib.hid (HP1.out rfl)
                clear HP1 HP2 Hnx2 hle Hall Hnone Hlater heq
                obtain ⟨T, hT⟩ : ∃ T, lastT mm K = T := ⟨_, rfl⟩
                rw [hT] at Hlast
                have HT := Lib.hid hT
                have HE : Hid (putC t x mm = mm.set m ⟨mm[m].Key, Vs ++ [newV t x]⟩) := Lib.hid (by rw [HE0.out, hVs, Hes.out])
                clear hT HE0
                go_wp2_with fail
                go_quiet (fail)
                go_wp2_with fail
                go_quiet (fail)
                go_upto_region 10 with fail
                generalize hw5 : World.drewN _ _ = w5
                have hbo : Below wo.heap.size wo w5 := by rw [← hw5]; (repeat (first | (with_reducible exact Below.refl _ _) | (with_reducible refine below_setCell ?_ (by first | (simp; done) | (simp; omega) | omega)) | (with_reducible refine below_alloc _ ?_) | (with_reducible refine below_drewN ?_ _) | (with_reducible assumption) | (with_reducible refine below_after (by assumption) ?_)))
                have BX5 : Blk w5 wo.heap.size 45 #[.string K, .string V, .bool G] := by rw [← hw5]; exact (HX.out.drewN _).drewN _
                have BV5 : Blk w5 (wo.heap.size + 1) 77 #[.int .i64 t, .string V, .bool G] := by rw [← hw5]; exact (HXV.out.drewN _).drewN _
                replace x0 := BX5.cell 0 (v := .string K) rfl
                clear hw5 HX HXV d0 x1 x2
                go_wp2_with fail
                refine (Hlast.out _ hbo).mono ?_
                rintro e w6 ⟨rfl, k6⟩
                have BV6 := BV5.below k6
                have hbo6 : Below wo.heap.size wo w6 := below_after k6 hbo
                have HPm := Lib.hid (Hp.out.below hbo6)
                have HbW : Below w.heap.size w w6 := below_after hbo6 hb
                have hbase : w.heap.size ≤ w6.heap.size := HbW.size
                clear k6 hbo BX5 BV5 x0 Hlast hbo6
                by_cases htT : t ≤ T
                · have HQ : Hid (outQ t l ws = false) := Lib.hid (by
                    have h1 : foldC t l ws = none := Hstop.out (by rw [Hnx.out]; unfold stepC; rw [HK.out, HT.out, if_neg (by omega)])
                    unfold outQ
                    rw [h1])
                  have HF : Hid (PutPostC t l ws w (.returned (.tuple #[.slice none 0 0, .bool false])) w6) := Lib.hid ⟨_, [], by rw [HQ.out], own_nil Cod.cell _ _, (fun h => by rw [HQ.out] at h; cases h), HbW⟩
                  clear Hnx Hstop HQ
                  go_wp2
                  go_ret2
                  exact HF.out
                have htT2 : T < t := by omega
                have Hf2 : Hid (foldC t l (ws.take (ki + 1)) = some (putC t x mm)) := Lib.hid (by rw [Hnx.out]; unfold stepC; rw [HK.out, HT.out, if_pos htT2])
                have hiM := hml
                have HroomV : Hid ((Vs.length + 1) * 32 ≤ room) := Lib.hid (by
                  have q1 := sumC_get costCell mm m hml
                  have q2 : costCell mm[m] = mm[m].Key.size + costVerS mm[m].Vers := rfl
                  have q3 := HCo.out
                  unfold costCellS at q3
                  unfold costVerS at q2
                  rw [hVs] at q2
                  unfold room
                  omega)
                have HlenN : Hid ((putC t x mm).length = N) := Lib.hid (by rw [HE.out, List.length_set]; exact HN.out)
                clear Hnx Hstop htT HT
                go_upto_region 12 with fail
                obtain ⟨Wd, hWd⟩ : ∃ Wd, w6.drew = Wd := ⟨_, rfl⟩
                have md : Below w6.heap.size w6 Wd := by rw [← hWd]; exact (Below.refl _ _).drew
                have hPd := HPm.out.below md
                obtain ⟨fp, vL, hR, hM, hgf, hflt, hvc, hvf, hback⟩ := versAt hPd m hiM
                have Hback := Lib.hid hback
                have HR := True.intro
                have HM := Lib.hid hM
                have hgd := (hPd.choose_spec.1.lt g rfl)
                rw [hVs] at hR
                obtain ⟨pL, cL, hvL⟩ : ∃ p c, vL = .slice p Vs.length c := by
                  rcases hR with ⟨h1, h2, _⟩ | ⟨b, off, cap, fs, cur, e, h1, _⟩
                  · exact ⟨none, 0, by rw [h2]; exact h1⟩
                  · exact ⟨_, _, h1⟩
                subst hvL
                have HR2 := Lib.hid hR
                have hX0 := (BV6.below md).cell 0 (v := .int .i64 t) rfl
                have hX1 := (BV6.below md).cell 1 (v := .string V) rfl
                have hX2 := (BV6.below md).cell 2 (v := .bool G) rfl
                have hXd := (BV6.below md).lt
                have hS : Wd.cell? ⟨g, m * 2 + 1, none⟩ = some (.slice pL Vs.length cL) ∧ Wd.cell? ⟨wo.heap.size + 1, 0, none⟩ = some (.int .i64 t) ∧ Wd.cell? ⟨wo.heap.size + 1, 1, none⟩ = some (.string V) ∧ Wd.cell? ⟨wo.heap.size + 1, 2, none⟩ = some (.bool G) := ⟨hvc, hX0, hX1, hX2⟩
                refine wp_region_d 11 (fun w' => w'.cell? ⟨g, m * 2 + 1, none⟩ = some (.slice pL Vs.length cL) ∧ w'.cell? ⟨wo.heap.size + 1, 0, none⟩ = some (.int .i64 t) ∧ w'.cell? ⟨wo.heap.size + 1, 1, none⟩ = some (.string V) ∧ w'.cell? ⟨wo.heap.size + 1, 2, none⟩ = some (.bool G)) (by kernel_rfl) ?_
                rw [hWd]
                clear hback hR hM hPd HR hWd
                refine d_takeY (v := ?_) 0 rfl (by kernel_rfl) (fun _ _ _ h => h) (Or.inl ⟨by rfl, ?_⟩) hS ?_
                rotate_left
                · intro wx _
                  first | (go_simp; done) | (go_simp; with_reducible rfl)
                simp only [Act.put, List.setIfInBounds_toArray]
                refine d_takeY (v := ?_) 1 rfl (by kernel_rfl) (fun _ _ _ h => h) (Or.inl ⟨by rfl, ?_⟩) hS ?_
                rotate_left
                · intro wx _
                  first | (go_simp; done) | (go_simp; with_reducible rfl)
                simp only [Act.put]
                refine d_takeY (v := ?_) 2 rfl (by kernel_rfl) (fun _ _ _ h => h) (Or.inl ⟨by rfl, ?_⟩) hS ?_
                rotate_left
                · intro wx _
                  first | (go_simp; done) | (go_simp; with_reducible rfl)
                simp only [Act.put]
                refine d_take (f := 30) (v := ?_) 3 rfl (by kernel_rfl) (fun _ _ _ h => h) (Or.inl ⟨by rfl, ?_⟩) hS ?_
                rotate_left
                · intro wx hx
                  obtain ⟨x0, x1, x2, x3⟩ := hx
                  first | (go_simp; done) | (go_simp; with_reducible rfl)
                simp only [Act.put]
                refine d_take (f := 30) (v := ?_) 4 rfl (by kernel_rfl) (fun _ _ _ h => h) (Or.inl ⟨by rfl, ?_⟩) hS ?_
                rotate_left
                · intro wx hx
                  obtain ⟨x0, x1, x2, x3⟩ := hx
                  first | (go_simp; done) | (go_simp; with_reducible rfl)
                simp only [Act.put]
                refine d_take (f := 30) (v := ?_) 5 rfl (by kernel_rfl) (fun _ _ _ h => h) (Or.inl ⟨by rfl, ?_⟩) hS ?_
                rotate_left
                · intro wx hx
                  obtain ⟨x0, x1, x2, x3⟩ := hx
                  first | (go_simp; done) | (go_simp; with_reducible rfl)
                simp only [Act.put]
                refine d_take (f := 30) (v := ?_) 6 rfl (by kernel_rfl) (fun _ _ _ h => h) (Or.inl ⟨by rfl, ?_⟩) hS ?_
                rotate_left
                · intro wx hx
                  obtain ⟨x0, x1, x2, x3⟩ := hx
                  first | (go_simp; done) | (go_simp; with_reducible rfl)
                simp only [Act.put]
                refine d_take (f := 30) (v := ?_) 7 rfl (by kernel_rfl) (fun _ _ _ h => h) (Or.inl ⟨by rfl, ?_⟩) hS ?_
                rotate_left
                · intro wx hx
                  obtain ⟨x0, x1, x2, x3⟩ := hx
                  first | (go_simp; done) | (go_simp; with_reducible rfl)
                simp only [Act.put]
                refine d_take (f := 30) (v := ?_) 8 rfl (by kernel_rfl) (fun _ _ _ h => h) (Or.inl ⟨by rfl, ?_⟩) hS ?_
                rotate_left
                · intro wx hx
                  obtain ⟨x0, x1, x2, x3⟩ := hx
                  first | (go_simp; done) | (go_simp; with_reducible rfl)
                simp only [Act.put]
                refine d_take (f := 30) (v := ?_) 9 rfl (by kernel_rfl) (fun _ _ _ h => h) (Or.inl ⟨by rfl, ?_⟩) hS ?_
                rotate_left
                · intro wx hx
                  obtain ⟨x0, x1, x2, x3⟩ := hx
                  first | (go_simp; done) | (go_simp; with_reducible rfl)
                simp only [Act.put]
                refine d_step 10 (by kernel_rfl) rfl (fun KK hK => ?_)
                go_simp
                refine hK.out _ _ (fun _ => ⟨(cell_alloc_old hgd.2).trans hvc, (cell_alloc_old hXd).trans hX0, (cell_alloc_old hXd).trans hX1, (cell_alloc_old hXd).trans hX2⟩) ?_
                clear hK KK
                try simp only [Act.put, List.setIfInBounds_toArray, List.set_cons_zero, List.set_cons_succ]
                have hBd : w.heap.size ≤ Wd.heap.size := Nat.le_trans hbase md.size
                refine d_step 11 (by kernel_rfl) rfl (fun KK hK => ?_)
                refine step_append_rdR (c := Cod.ver) Wd rfl _ _ 55 rfl w.heap.size 77 77 j0 (.agg #[.int .i64 0, .string ⟨#[]⟩, .bool false]) 32 Try.underlying55 ji jz0 jz1 jz2 rfl (by decide) (by decide) (.slice pL Vs.length cL) Vs fp (by simp [Act.eval]) HR2.out HM.out hBd (newV t x) [] [.int .i64 t, .string V, .bool G] rfl (Hver.out _) (fun b hb => by cases hb) Wd.heap.size rfl (by simp [Act.eval]) (by simp [Value.oneCell']) HroomV.out ?_
                intro g' off' cap' w9 fpo hR9 hf9 hz9 hb9 hk9
                have HP9 : Hid (PartC Cod.cellR (w9.setCell ⟨g, m * 2 + 1, none⟩ (.slice (some ⟨g', off', none⟩) (Vs.length + 1) cap')) w.heap.size 57 (.slice (some ⟨g, 0, none⟩) N cap) N (mm.set m ⟨mm[m].Key, Vs ++ [newV t x]⟩) (cs.set (m * 2 + 1) (.slice (some ⟨g', off', none⟩) (Vs.length + 1) cap'))) := Lib.hid (vers_back hiM Hback.out HM.out hBd hR9 hf9 hz9 hb9 hk9)
                have hgk : w9.heap[g]? = Wd.heap[g]? := hk9 g hgd.2 hgf
                have c9 : w9.cell? ⟨g, m * 2 + 1, none⟩ = some (.slice pL Vs.length cL) := (World.cell?_of_block (a := ⟨g, m * 2 + 1, none⟩) hgk).trans hvc
                have z9 : w9.frozen? ⟨g, m * 2 + 1, none⟩ = false := (World.frozen?_of_block (a := ⟨g, m * 2 + 1, none⟩) hgk).trans hvf
                have bw9 : Below w.heap.size w w9 := (below_after md HbW).trans hb9
                refine hK.out _ _ (fun h => by exact absurd h (by decide)) ?_
                clear hK KK hR9 hf9 hz9 hb9 hk9 Hback HR2 HM hS hvc hvf hgk hX0 hX1 hX2 hXd
                try simp only [Act.put, List.setIfInBounds_toArray]
                refine d_takeYL (v := ?_) 12 rfl (by kernel_rfl) (fun _ _ _ h => h) (Or.inl ⟨by rfl, ?_⟩) ?_
                rotate_left
                · intro wx _
                  first | (go_simp; done) | (go_simp; with_reducible rfl)
                simp only [Act.put]
                refine d_takeYL (v := ?_) 13 rfl (by kernel_rfl) (fun _ _ _ h => h) (Or.inl ⟨by rfl, ?_⟩) ?_
                rotate_left
                · intro wx _
                  first | (go_simp; done) | (go_simp; with_reducible rfl)
                simp only [Act.put]
                refine d_step 14 (by kernel_rfl) rfl (fun KK hK => ?_)
                go_simp
                refine hK.out _ _ (fun h => by exact absurd h (by decide)) ?_
                clear hK KK
                refine d_done (by kernel_rfl) ?_ _
                try simp only [Act.put, List.setIfInBounds_toArray, List.set_cons_zero, List.set_cons_succ]
                have HP10 : Hid (PartC Cod.cellR (w9.setCell ⟨g, m * 2 + 1, none⟩ (.slice (some ⟨g', off', none⟩) (Vs.length + 1) cap')) w.heap.size 57 (.slice (some ⟨g, 0, none⟩) N cap) N (putC t x mm) (cs.set (m * 2 + 1) (.slice (some ⟨g', off', none⟩) (Vs.length + 1) cap'))) := Lib.hid (by rw [HE.out]; exact HP9.out)
                have bw10 : Below w.heap.size w (w9.setCell ⟨g, m * 2 + 1, none⟩ (.slice (some ⟨g', off', none⟩) (Vs.length + 1) cap')) := bw9.setCell hglo _
                clear HP9 bw9 c9 z9
                go_wp2
                go_roundw
                case rel => exact ⟨ki + 1, _, putC t x mm, _, N, rfl, by go_num, by omega, Hf2, HlenN, HP10, bw10⟩
                case measure => simp [intOf]; omega
              · have h2 : (y.toList == K.toList) = false := by rw [beq_eq_false_iff_ne]; exact fun e => heq (str_eq_iff.1 e)
                have h1 : Op.bytesLess y.toList K.toList = true := by rw [h2, Bool.or_false] at hle; exact hle
                obtain ⟨hno, hE⟩ := HP2.out rfl heq
                have HE := Lib.hid hE
                have Hf2 := Lib.hid (Hlater.out hno)
                clear hno hE HP1 HP2 Hnx2 heq hle Hall hVs Hes hml Hnone Hlater Hnx Hstop Hlast
                by_cases hkc : cap = k
                · skip
                  obtain rfl : N = k := by omega
                  obtain rfl : cap = N := by omega
                  go_wp2_with fail
                  go_quiet (fail)
                  go_wp2_with fail
                  go_quiet (fail)
                  go_upto_region 13 with fail
                  generalize hw5 : World.drewN _ _ = w5
                  have hbo : Below wo.heap.size wo w5 := by rw [← hw5]; (repeat (first | (with_reducible exact Below.refl _ _) | (with_reducible refine below_setCell ?_ (by first | (simp; done) | (simp; omega) | omega)) | (with_reducible refine below_alloc _ ?_) | (with_reducible refine below_drewN ?_ _) | (with_reducible assumption) | (with_reducible refine below_after (by assumption) ?_)))
                  have BX5 : Blk w5 wo.heap.size 45 #[.string K, .string V, .bool G] := by rw [← hw5]; exact (HX.out.drewN _).drewN _
                  have BV5 : Blk w5 (wo.heap.size + 1) 77 #[.int .i64 t, .string V, .bool G] := by rw [← hw5]; exact (HXV.out.drewN _).drewN _
                  have HP5 := Lib.hid (Hp.out.below hbo)
                  have Hb5 : Below w.heap.size w w5 := below_after hbo hb
                  have hbw5 : w.heap.size ≤ w5.heap.size := Hb5.size
                  have ho5 := HP5.out.choose_spec.1
                  have hcl5 : cs.length = cap * 2 := ho5.1
                  have hone := oneCell_cellR HP5.out HN.out
                  obtain ⟨LDc, hLD⟩ : ∃ L, L = cs.drop (cap * 2) := ⟨_, rfl⟩
                  obtain ⟨LTc, hLT⟩ : ∃ L, L = cs.take (cap * 2) := ⟨_, rfl⟩
                  have hLD1 : ∀ u ∈ LDc, u.oneCell' = true := fun u hu => by rw [hLD] at hu; exact hone u (List.mem_of_mem_drop hu)
                  have HSD : Hid (SrcOf w5 (.slice (some ⟨g, 0, none⟩) 0 0) 0 LDc) := Lib.hid (by rw [hLD]; exact (src_end hcl5 rfl))
                  have HST : Hid (SrcOf w5 (.slice (some ⟨g, 0, none⟩) cap cap) cap LTc) := Lib.hid (by rw [hLT]; exact (src_take ho5 hone cap (Nat.le_refl _)))
                  have Hnd : Hid (cap + 0 = cap) := Lib.hid (by omega)
                  have hkN : cap ≤ cap := Nat.le_refl _
                  have HlenN : Hid ((putC t x mm).length = cap + 1) := Lib.hid (by rw [HE.out, List.length_append, List.length_take, List.length_cons, List.length_drop]; have := HN.out; omega)
                  clear hw5 hbo HX HXV ho5 hone hcl5
                  obtain ⟨s7, w7, hrun7, ho7, hg7, hb7⟩ := run_append_cells (w5.alloc (.cells #[] 57)) 33 w5.heap.size (by simp) (made0 (w0 := w5) (e := 57) (size := 2) rfl (Nat.le_refl _)) (HSD.out.below (below_new _ _)) (by omega)
                  go_wp2_with (at_builtin; go_must (refine Lib.wpList_append_run _ rfl _ _ 33 33 rfl _ _ rfl rfl s7 w7 hrun7 ?_))
                  have k7 : Below w5.heap.size w5 w7 := (below_new _ _).trans hb7
                  have HS7 : Hid (SrcOf w7 s7 0 LDc) := Lib.hid (by have := src_own ho7 (by simpa using hLD1); simpa using this)
                  clear hrun7 ho7 hg7 hb7
                  go_upto_region 14 with fail
                  refine wp_region_d 14 (fun w' => w'.cell? ⟨wo.heap.size, 0, none⟩ = some (.string K) ∧ w'.cell? ⟨wo.heap.size + 1, 0, none⟩ = some (.int .i64 t) ∧ w'.cell? ⟨wo.heap.size + 1, 1, none⟩ = some (.string V) ∧ w'.cell? ⟨wo.heap.size + 1, 2, none⟩ = some (.bool G)) (by kernel_rfl) ?_
                  obtain ⟨w8, hw8⟩ : ∃ w8, w7.drew = w8 := ⟨_, rfl⟩
                  have k8 : Below w5.heap.size w5 w8 := by rw [← hw8]; exact k7.drew
                  have b78 : Below w7.heap.size w7 w8 := by rw [← hw8]; exact (Below.refl _ _).drew
                  rw [hw8]
                  clear hw8
                  have hS8 : Hid (∀ u, Below w8.heap.size w8 u → u.cell? ⟨wo.heap.size, 0, none⟩ = some (.string K) ∧ u.cell? ⟨wo.heap.size + 1, 0, none⟩ = some (.int .i64 t) ∧ u.cell? ⟨wo.heap.size + 1, 1, none⟩ = some (.string V) ∧ u.cell? ⟨wo.heap.size + 1, 2, none⟩ = some (.bool G)) := Lib.hid fun u b => ⟨((BX5.below k8).below b).cell 0 rfl, ((BV5.below k8).below b).cell 0 rfl, ((BV5.below k8).below b).cell 1 rfl, ((BV5.below k8).below b).cell 2 rfl⟩
                  have hS := hS8.out w8 (Below.refl _ _)
                  have HS8 : Hid (∀ u, Below w8.heap.size w8 u → SrcOf u s7 0 LDc) := Lib.hid fun u b => (HS7.out.below b78).below b
                  have HT8 : Hid (∀ u, Below w8.heap.size w8 u → SrcOf u (.slice (some ⟨g, 0, none⟩) cap cap) cap LTc) := Lib.hid fun u b => (HST.out.below k8).below b
                  have hz8 : w5.heap.size ≤ w8.heap.size := k8.size
                  clear HS7 k7 b78
                  refine d_take (f := 30) (v := ?_) 1 rfl (by kernel_rfl) (fun _ _ _ h => h) (Or.inl ⟨by rfl, ?_⟩) hS ?_
                  rotate_left
                  · intro wx hx
                    obtain ⟨x0, x1, x2, x3⟩ := hx
                    first | (go_simp; done) | (go_simp; with_reducible rfl)
                  simp only [Act.put, List.setIfInBounds_toArray]
                  refine d_take (f := 30) (v := ?_) 2 rfl (by kernel_rfl) (fun _ _ _ h => h) (Or.inl ⟨by rfl, ?_⟩) hS ?_
                  rotate_left
                  · intro wx hx
                    obtain ⟨x0, x1, x2, x3⟩ := hx
                    first | (go_simp; done) | (go_simp; with_reducible rfl)
                  simp only [Act.put]
                  refine d_take (f := 30) (v := ?_) 3 rfl (by kernel_rfl) (fun _ _ _ h => h) (Or.inl ⟨by rfl, ?_⟩) hS ?_
                  rotate_left
                  · intro wx hx
                    obtain ⟨x0, x1, x2, x3⟩ := hx
                    first | (go_simp; done) | (go_simp; with_reducible rfl)
                  simp only [Act.put]
                  refine d_take (f := 30) (v := ?_) 5 rfl (by kernel_rfl) (fun _ _ _ h => h) (Or.inl ⟨by rfl, ?_⟩) hS ?_
                  rotate_left
                  · intro wx hx
                    obtain ⟨x0, x1, x2, x3⟩ := hx
                    first | (go_simp; done) | (go_simp; with_reducible rfl)
                  simp only [Act.put]
                  refine d_take (f := 30) (v := ?_) 6 rfl (by kernel_rfl) (fun _ _ _ h => h) (Or.inl ⟨by rfl, ?_⟩) hS ?_
                  rotate_left
                  · intro wx hx
                    obtain ⟨x0, x1, x2, x3⟩ := hx
                    first | (go_simp; done) | (go_simp; with_reducible rfl)
                  simp only [Act.put]
                  refine d_take (f := 30) (v := ?_) 7 rfl (by kernel_rfl) (fun _ _ _ h => h) (Or.inl ⟨by rfl, ?_⟩) hS ?_
                  rotate_left
                  · intro wx hx
                    obtain ⟨x0, x1, x2, x3⟩ := hx
                    first | (go_simp; done) | (go_simp; with_reducible rfl)
                  simp only [Act.put]
                  refine d_take (f := 30) (v := ?_) 12 rfl (by kernel_rfl) (fun _ _ _ h => h) (Or.inl ⟨by rfl, ?_⟩) hS ?_
                  rotate_left
                  · intro wx hx
                    obtain ⟨x0, x1, x2, x3⟩ := hx
                    first | (go_simp; done) | (go_simp; with_reducible rfl)
                  simp only [Act.put]
                  have kw8 : Below w8.heap.size w8 w8 := Below.refl _ _
                  refine d_two 0 8 (by kernel_rfl) rfl rfl (fun KK hK => ?_) (fun KK hK => ?_)
                  · skip
                    go_simp
                    generalize hA : World.alloc _ _ = u1
                    have PE : u1.ownsRow w8.heap.size 57 2 (.slice (some ⟨w8.heap.size, 0, none⟩) 0 0) 0 [] := by rw [← hA]; exact made0 rfl (Nat.le_refl _)
                    have bu1 : Below w8.heap.size w8 u1 := by rw [← hA]; exact below_new _ _
                    have ku1 : Below w8.heap.size w8 u1 := below_after bu1 kw8
                    have hzu1 : w8.heap.size ≤ u1.heap.size := ku1.size
                    have hyu1 : w8.heap.size ≤ u1.heap.size := bu1.size
                    have hEB : w8.heap.size < u1.heap.size := (PE.lt _ rfl).2
                    clear hA
                    refine hK.out _ _ (fun _ => hS8.out u1 ku1) ?_
                    clear hK KK
                    try simp only [Act.put, List.setIfInBounds_toArray, List.set_cons_zero, List.set_cons_succ]
                    refine d_two 4 8 (by kernel_rfl) rfl rfl (fun KK hK => ?_) (fun KK hK => ?_)
                    · skip
                      obtain ⟨su2, u2, hrun, Pu2, gu2, kku2⟩ := run_append_cells u1 33 w8.heap.size (by first | exact Nat.le_refl _ | omega) PE (HT8.out _ ku1) (by omega)
                      refine step_append_eq rfl _ _ 33 rfl _ _ (by simp [Act.eval]) (by simp [Act.eval]) hrun ?_
                      have ku2 : Below w8.heap.size w8 u2 := ku1.trans (kku2.mono (by first | exact Nat.le_refl _ | omega))
                      have hzu2 : w8.heap.size ≤ u2.heap.size := ku2.size
                      have hyu2 : u1.heap.size ≤ u2.heap.size := kku2.size
                      clear hrun
                      refine hK.out _ _ (fun _ => hS8.out u2 ku2) ?_
                      clear hK KK
                      try simp only [Act.put, List.setIfInBounds_toArray]
                      have gEu2 : u1.grownBy u2 (some w8.heap.size) := gu2
                      have PL := Pu2
                      clear Pu2 PE
                      refine d_step 8 (by kernel_rfl) rfl (fun KK hK => ?_)
                      go_simp
                      generalize hA : World.alloc _ _ = u3
                      have XV : Blk u3 u2.heap.size 77 #[.int .i64 t, .string V, .bool G] := by rw [← hA]; exact Blk.new _ _ _
                      have bu3 : Below u2.heap.size u2 u3 := by rw [← hA]; exact below_new _ _
                      have ku3 : Below w8.heap.size w8 u3 := below_after bu3 ku2
                      have hzu3 : w8.heap.size ≤ u3.heap.size := ku3.size
                      have hyu3 : u2.heap.size ≤ u3.heap.size := bu3.size
                      have hVB : u2.heap.size < u3.heap.size := XV.lt
                      clear hA
                      refine hK.out _ _ (fun _ => hS8.out u3 ku3) ?_
                      clear hK KK
                      try simp only [Act.put, List.setIfInBounds_toArray, List.set_cons_zero, List.set_cons_succ]
                      have hS := hS8.out _ ku3
                      refine d_takeY (v := ?_) 9 rfl (by kernel_rfl) (fun _ _ _ h => h) (Or.inl ⟨by rfl, ?_⟩) hS ?_
                      rotate_left
                      · intro wx _
                        first | (go_simp; done) | (go_simp; with_reducible rfl)
                      simp only [Act.put, List.setIfInBounds_toArray]
                      clear hS
                      replace PL := own_below PL bu3
                      refine d_step 10 (by kernel_rfl) rfl (fun KK hK => ?_)
                      go_simp
                      generalize hA : World.alloc _ _ = u4
                      have XB : Blk u4 u3.heap.size 57 #[.string K, .slice (some ⟨u2.heap.size, 0, none⟩) 1 1] := by rw [← hA]; exact Blk.new _ _ _
                      have bu4 : Below u3.heap.size u3 u4 := by rw [← hA]; exact below_new _ _
                      have ku4 : Below w8.heap.size w8 u4 := below_after bu4 ku3
                      have hzu4 : w8.heap.size ≤ u4.heap.size := ku4.size
                      have hyu4 : u3.heap.size ≤ u4.heap.size := bu4.size
                      have hBB : u3.heap.size < u4.heap.size := XB.lt
                      clear hA
                      refine hK.out _ _ (fun _ => hS8.out u4 ku4) ?_
                      clear hK KK
                      try simp only [Act.put, List.setIfInBounds_toArray, List.set_cons_zero, List.set_cons_succ]
                      replace PL := own_below PL bu4
                      replace XV := XV.below bu4
                      refine d_step 11 (by kernel_rfl) rfl (fun KK hK => ?_)
                      obtain ⟨swy, wy, hrun, Pwy, gwy, kkwy⟩ := run_append_cells u4 33 w8.heap.size (by first | exact Nat.le_refl _ | omega) PL (src_box XB (by simp [Value.oneCell'])) (by omega)
                      refine step_append_eq rfl _ _ 33 rfl _ _ (by simp [Act.eval]) (by simp [Act.eval]) hrun ?_
                      have kwy : Below w8.heap.size w8 wy := ku4.trans (kkwy.mono (by first | exact Nat.le_refl _ | omega))
                      have hzwy : w8.heap.size ≤ wy.heap.size := kwy.size
                      have hywy : u4.heap.size ≤ wy.heap.size := kkwy.size
                      clear hrun
                      refine hK.out _ _ (fun _ => hS8.out wy kwy) ?_
                      clear hK KK
                      try simp only [Act.put, List.setIfInBounds_toArray]
                      have XV3 := XV.of (gwy.block _ XV.lt (row_ne PL XV (by decide)))
                      refine d_step 13 (by kernel_rfl) rfl (fun KK hK => ?_)
                      obtain ⟨swz, wz, hrun, Pwz, gwz, kkwz⟩ := run_append_cells wy 33 w8.heap.size (by first | exact Nat.le_refl _ | omega) Pwy (HS8.out _ kwy) (by omega)
                      refine step_append_eq rfl _ _ 33 rfl _ _ (by simp [Act.eval]) (by simp [Act.eval]) hrun ?_
                      have kwz : Below w8.heap.size w8 wz := kwy.trans (kkwz.mono (by first | exact Nat.le_refl _ | omega))
                      have hzwz : w8.heap.size ≤ wz.heap.size := kwz.size
                      have hywz : wy.heap.size ≤ wz.heap.size := kkwz.size
                      clear hrun
                      refine hK.out _ _ (fun _ => hS8.out wz kwz) ?_
                      clear hK KK
                      try simp only [Act.put]
                      have XV4 := XV3.of (gwz.block _ XV3.lt (row_ne Pwy XV3 (by decide)))
                      have HP9 : Hid (∃ c9, PartC Cod.cellR wz w.heap.size 57 swz (cap + 1) (putC t x mm) c9) := Lib.hid (ins_fresh HP5.out HN.out hkN hbw5 hz8 (by omega) HE.out hLT hLD Hnd.out XV4 Hver.out z0 Pwz (below_after kwz k8) (by omega))
                      have bw9 : Below w.heap.size w wz := below_after (below_after kwz k8) Hb5
                      clear XV XV3 XV4 XB PL Pwy Pwz gwy gwz kkwy kkwz
                      refine d_step 14 (by kernel_rfl) rfl (fun KK hK => ?_)
                      go_simp
                      refine hK.out _ _ (fun h => by exact absurd h (by decide)) ?_
                      clear hK KK
                      refine d_done (by kernel_rfl) ?_ _
                      try simp only [Act.put, List.setIfInBounds_toArray, List.set_cons_zero, List.set_cons_succ]
                      obtain ⟨c9, hP9⟩ := HP9.out
                      have HP10 := Lib.hid hP9
                      clear hP9 HP9
                      go_wp2
                      go_roundw
                      case rel => exact ⟨ki + 1, _, putC t x mm, c9, cap + 1, rfl, by go_num, by omega, Hf2, HlenN, HP10, bw9⟩
                      case measure => simp [intOf]; omega
                    · skip
                      go_simp
                      generalize hA : World.alloc _ _ = u5
                      have XV : Blk u5 u1.heap.size 77 #[.int .i64 t, .string V, .bool G] := by rw [← hA]; exact Blk.new _ _ _
                      have bu5 : Below u1.heap.size u1 u5 := by rw [← hA]; exact below_new _ _
                      have ku5 : Below w8.heap.size w8 u5 := below_after bu5 ku1
                      have hzu5 : w8.heap.size ≤ u5.heap.size := ku5.size
                      have hyu5 : u1.heap.size ≤ u5.heap.size := bu5.size
                      have hVB : u1.heap.size < u5.heap.size := XV.lt
                      clear hA
                      refine hK.out _ _ (fun _ => hS8.out u5 ku5) ?_
                      clear hK KK
                      try simp only [Act.put, List.setIfInBounds_toArray, List.set_cons_zero, List.set_cons_succ]
                      have hS := hS8.out _ ku5
                      refine d_takeY (v := ?_) 9 rfl (by kernel_rfl) (fun _ _ _ h => h) (Or.inl ⟨by rfl, ?_⟩) hS ?_
                      rotate_left
                      · intro wx _
                        first | (go_simp; done) | (go_simp; with_reducible rfl)
                      simp only [Act.put, List.setIfInBounds_toArray]
                      clear hS
                      replace PE := own_below PE bu5
                      refine d_two 4 10 (by kernel_rfl) rfl rfl (fun KK hK => ?_) (fun KK hK => ?_)
                      · skip
                        obtain ⟨su6, u6, hrun, Pu6, gu6, kku6⟩ := run_append_cells u5 33 w8.heap.size (by first | exact Nat.le_refl _ | omega) PE (HT8.out _ ku5) (by omega)
                        refine step_append_eq rfl _ _ 33 rfl _ _ (by simp [Act.eval]) (by simp [Act.eval]) hrun ?_
                        have ku6 : Below w8.heap.size w8 u6 := ku5.trans (kku6.mono (by first | exact Nat.le_refl _ | omega))
                        have hzu6 : w8.heap.size ≤ u6.heap.size := ku6.size
                        have hyu6 : u5.heap.size ≤ u6.heap.size := kku6.size
                        clear hrun
                        refine hK.out _ _ (fun _ => hS8.out u6 ku6) ?_
                        clear hK KK
                        try simp only [Act.put]
                        have gEu6 : u5.grownBy u6 (some w8.heap.size) := gu6
                        have PL := Pu6
                        clear Pu6 PE
                        replace XV := XV.grown gEu6 (by omega)
                        refine d_step 10 (by kernel_rfl) rfl (fun KK hK => ?_)
                        go_simp
                        generalize hA : World.alloc _ _ = u7
                        have XB : Blk u7 u6.heap.size 57 #[.string K, .slice (some ⟨u1.heap.size, 0, none⟩) 1 1] := by rw [← hA]; exact Blk.new _ _ _
                        have bu7 : Below u6.heap.size u6 u7 := by rw [← hA]; exact below_new _ _
                        have ku7 : Below w8.heap.size w8 u7 := below_after bu7 ku6
                        have hzu7 : w8.heap.size ≤ u7.heap.size := ku7.size
                        have hyu7 : u6.heap.size ≤ u7.heap.size := bu7.size
                        have hBB : u6.heap.size < u7.heap.size := XB.lt
                        clear hA
                        refine hK.out _ _ (fun _ => hS8.out u7 ku7) ?_
                        clear hK KK
                        try simp only [Act.put, List.setIfInBounds_toArray, List.set_cons_zero, List.set_cons_succ]
                        replace PL := own_below PL bu7
                        replace XV := XV.below bu7
                        refine d_step 11 (by kernel_rfl) rfl (fun KK hK => ?_)
                        obtain ⟨swy, wy, hrun, Pwy, gwy, kkwy⟩ := run_append_cells u7 33 w8.heap.size (by first | exact Nat.le_refl _ | omega) PL (src_box XB (by simp [Value.oneCell'])) (by omega)
                        refine step_append_eq rfl _ _ 33 rfl _ _ (by simp [Act.eval]) (by simp [Act.eval]) hrun ?_
                        have kwy : Below w8.heap.size w8 wy := ku7.trans (kkwy.mono (by first | exact Nat.le_refl _ | omega))
                        have hzwy : w8.heap.size ≤ wy.heap.size := kwy.size
                        have hywy : u7.heap.size ≤ wy.heap.size := kkwy.size
                        clear hrun
                        refine hK.out _ _ (fun _ => hS8.out wy kwy) ?_
                        clear hK KK
                        try simp only [Act.put, List.setIfInBounds_toArray]
                        have XV3 := XV.of (gwy.block _ XV.lt (row_ne PL XV (by decide)))
                        refine d_step 13 (by kernel_rfl) rfl (fun KK hK => ?_)
                        obtain ⟨swz, wz, hrun, Pwz, gwz, kkwz⟩ := run_append_cells wy 33 w8.heap.size (by first | exact Nat.le_refl _ | omega) Pwy (HS8.out _ kwy) (by omega)
                        refine step_append_eq rfl _ _ 33 rfl _ _ (by simp [Act.eval]) (by simp [Act.eval]) hrun ?_
                        have kwz : Below w8.heap.size w8 wz := kwy.trans (kkwz.mono (by first | exact Nat.le_refl _ | omega))
                        have hzwz : w8.heap.size ≤ wz.heap.size := kwz.size
                        have hywz : wy.heap.size ≤ wz.heap.size := kkwz.size
                        clear hrun
                        refine hK.out _ _ (fun _ => hS8.out wz kwz) ?_
                        clear hK KK
                        try simp only [Act.put]
                        have XV4 := XV3.of (gwz.block _ XV3.lt (row_ne Pwy XV3 (by decide)))
                        have HP9 : Hid (∃ c9, PartC Cod.cellR wz w.heap.size 57 swz (cap + 1) (putC t x mm) c9) := Lib.hid (ins_fresh HP5.out HN.out hkN hbw5 hz8 (by omega) HE.out hLT hLD Hnd.out XV4 Hver.out z0 Pwz (below_after kwz k8) (by omega))
                        have bw9 : Below w.heap.size w wz := below_after (below_after kwz k8) Hb5
                        clear XV XV3 XV4 XB PL Pwy Pwz gwy gwz kkwy kkwz
                        refine d_step 14 (by kernel_rfl) rfl (fun KK hK => ?_)
                        go_simp
                        refine hK.out _ _ (fun h => by exact absurd h (by decide)) ?_
                        clear hK KK
                        refine d_done (by kernel_rfl) ?_ _
                        try simp only [Act.put, List.setIfInBounds_toArray, List.set_cons_zero, List.set_cons_succ]
                        obtain ⟨c9, hP9⟩ := HP9.out
                        have HP10 := Lib.hid hP9
                        clear hP9 HP9
                        go_wp2
                        go_roundw
                        case rel => exact ⟨ki + 1, _, putC t x mm, c9, cap + 1, rfl, by go_num, by omega, Hf2, HlenN, HP10, bw9⟩
                        case measure => simp [intOf]; omega
                      · skip
                        go_simp
                        generalize hA : World.alloc _ _ = u8
                        have XB : Blk u8 u5.heap.size 57 #[.string K, .slice (some ⟨u1.heap.size, 0, none⟩) 1 1] := by rw [← hA]; exact Blk.new _ _ _
                        have bu8 : Below u5.heap.size u5 u8 := by rw [← hA]; exact below_new _ _
                        have ku8 : Below w8.heap.size w8 u8 := below_after bu8 ku5
                        have hzu8 : w8.heap.size ≤ u8.heap.size := ku8.size
                        have hyu8 : u5.heap.size ≤ u8.heap.size := bu8.size
                        have hBB : u5.heap.size < u8.heap.size := XB.lt
                        clear hA
                        refine hK.out _ _ (fun _ => hS8.out u8 ku8) ?_
                        clear hK KK
                        try simp only [Act.put, List.setIfInBounds_toArray, List.set_cons_zero, List.set_cons_succ]
                        replace PE := own_below PE bu8
                        replace XV := XV.below bu8
                        refine d_step 4 (by kernel_rfl) rfl (fun KK hK => ?_)
                        obtain ⟨su9, u9, hrun, Pu9, gu9, kku9⟩ := run_append_cells u8 33 w8.heap.size (by first | exact Nat.le_refl _ | omega) PE (HT8.out _ ku8) (by omega)
                        refine step_append_eq rfl _ _ 33 rfl _ _ (by simp [Act.eval]) (by simp [Act.eval]) hrun ?_
                        have ku9 : Below w8.heap.size w8 u9 := ku8.trans (kku9.mono (by first | exact Nat.le_refl _ | omega))
                        have hzu9 : w8.heap.size ≤ u9.heap.size := ku9.size
                        have hyu9 : u8.heap.size ≤ u9.heap.size := kku9.size
                        clear hrun
                        refine hK.out _ _ (fun _ => hS8.out u9 ku9) ?_
                        clear hK KK
                        try simp only [Act.put, List.setIfInBounds_toArray]
                        have gEu9 : u8.grownBy u9 (some w8.heap.size) := gu9
                        have PL := Pu9
                        clear Pu9 PE
                        replace XV := XV.grown gEu9 (by omega)
                        replace XB := XB.grown gEu9 (by omega)
                        refine d_step 11 (by kernel_rfl) rfl (fun KK hK => ?_)
                        obtain ⟨swy, wy, hrun, Pwy, gwy, kkwy⟩ := run_append_cells u9 33 w8.heap.size (by first | exact Nat.le_refl _ | omega) PL (src_box XB (by simp [Value.oneCell'])) (by omega)
                        refine step_append_eq rfl _ _ 33 rfl _ _ (by simp [Act.eval]) (by simp [Act.eval]) hrun ?_
                        have kwy : Below w8.heap.size w8 wy := ku9.trans (kkwy.mono (by first | exact Nat.le_refl _ | omega))
                        have hzwy : w8.heap.size ≤ wy.heap.size := kwy.size
                        have hywy : u9.heap.size ≤ wy.heap.size := kkwy.size
                        clear hrun
                        refine hK.out _ _ (fun _ => hS8.out wy kwy) ?_
                        clear hK KK
                        try simp only [Act.put]
                        have XV3 := XV.of (gwy.block _ XV.lt (row_ne PL XV (by decide)))
                        refine d_step 13 (by kernel_rfl) rfl (fun KK hK => ?_)
                        obtain ⟨swz, wz, hrun, Pwz, gwz, kkwz⟩ := run_append_cells wy 33 w8.heap.size (by first | exact Nat.le_refl _ | omega) Pwy (HS8.out _ kwy) (by omega)
                        refine step_append_eq rfl _ _ 33 rfl _ _ (by simp [Act.eval]) (by simp [Act.eval]) hrun ?_
                        have kwz : Below w8.heap.size w8 wz := kwy.trans (kkwz.mono (by first | exact Nat.le_refl _ | omega))
                        have hzwz : w8.heap.size ≤ wz.heap.size := kwz.size
                        have hywz : wy.heap.size ≤ wz.heap.size := kkwz.size
                        clear hrun
                        refine hK.out _ _ (fun _ => hS8.out wz kwz) ?_
                        clear hK KK
                        try simp only [Act.put]
                        have XV4 := XV3.of (gwz.block _ XV3.lt (row_ne Pwy XV3 (by decide)))
                        have HP9 : Hid (∃ c9, PartC Cod.cellR wz w.heap.size 57 swz (cap + 1) (putC t x mm) c9) := Lib.hid (ins_fresh HP5.out HN.out hkN hbw5 hz8 (by omega) HE.out hLT hLD Hnd.out XV4 Hver.out z0 Pwz (below_after kwz k8) (by omega))
                        have bw9 : Below w.heap.size w wz := below_after (below_after kwz k8) Hb5
                        clear XV XV3 XV4 XB PL Pwy Pwz gwy gwz kkwy kkwz
                        refine d_step 14 (by kernel_rfl) rfl (fun KK hK => ?_)
                        go_simp
                        refine hK.out _ _ (fun h => by exact absurd h (by decide)) ?_
                        clear hK KK
                        refine d_done (by kernel_rfl) ?_ _
                        try simp only [Act.put, List.setIfInBounds_toArray, List.set_cons_zero, List.set_cons_succ]
                        obtain ⟨c9, hP9⟩ := HP9.out
                        have HP10 := Lib.hid hP9
                        clear hP9 HP9
                        go_wp2
                        go_roundw
                        case rel => exact ⟨ki + 1, _, putC t x mm, c9, cap + 1, rfl, by go_num, by omega, Hf2, HlenN, HP10, bw9⟩
                        case measure => simp [intOf]; omega
                  · skip
                    go_simp
                    generalize hA : World.alloc _ _ = u10
                    have XV : Blk u10 w8.heap.size 77 #[.int .i64 t, .string V, .bool G] := by rw [← hA]; exact Blk.new _ _ _
                    have bu10 : Below w8.heap.size w8 u10 := by rw [← hA]; exact below_new _ _
                    have ku10 : Below w8.heap.size w8 u10 := below_after bu10 kw8
                    have hzu10 : w8.heap.size ≤ u10.heap.size := ku10.size
                    have hyu10 : w8.heap.size ≤ u10.heap.size := bu10.size
                    have hVB : w8.heap.size < u10.heap.size := XV.lt
                    clear hA
                    refine hK.out _ _ (fun _ => hS8.out u10 ku10) ?_
                    clear hK KK
                    try simp only [Act.put, List.setIfInBounds_toArray, List.set_cons_zero, List.set_cons_succ]
                    have hS := hS8.out _ ku10
                    refine d_takeY (v := ?_) 9 rfl (by kernel_rfl) (fun _ _ _ h => h) (Or.inl ⟨by rfl, ?_⟩) hS ?_
                    rotate_left
                    · intro wx _
                      first | (go_simp; done) | (go_simp; with_reducible rfl)
                    simp only [Act.put, List.setIfInBounds_toArray]
                    clear hS
                    refine d_two 0 10 (by kernel_rfl) rfl rfl (fun KK hK => ?_) (fun KK hK => ?_)
                    · skip
                      go_simp
                      generalize hA : World.alloc _ _ = u11
                      have PE : u11.ownsRow u10.heap.size 57 2 (.slice (some ⟨u10.heap.size, 0, none⟩) 0 0) 0 [] := by rw [← hA]; exact made0 rfl (Nat.le_refl _)
                      have bu11 : Below u10.heap.size u10 u11 := by rw [← hA]; exact below_new _ _
                      have ku11 : Below w8.heap.size w8 u11 := below_after bu11 ku10
                      have hzu11 : w8.heap.size ≤ u11.heap.size := ku11.size
                      have hyu11 : u10.heap.size ≤ u11.heap.size := bu11.size
                      have hEB : u10.heap.size < u11.heap.size := (PE.lt _ rfl).2
                      clear hA
                      refine hK.out _ _ (fun _ => hS8.out u11 ku11) ?_
                      clear hK KK
                      try simp only [Act.put, List.setIfInBounds_toArray, List.set_cons_zero, List.set_cons_succ]
                      replace XV := XV.below bu11
                      refine d_two 4 10 (by kernel_rfl) rfl rfl (fun KK hK => ?_) (fun KK hK => ?_)
                      · skip
                        obtain ⟨su12, u12, hrun, Pu12, gu12, kku12⟩ := run_append_cells u11 33 u10.heap.size (by first | exact Nat.le_refl _ | omega) PE (HT8.out _ ku11) (by omega)
                        refine step_append_eq rfl _ _ 33 rfl _ _ (by simp [Act.eval]) (by simp [Act.eval]) hrun ?_
                        have ku12 : Below w8.heap.size w8 u12 := ku11.trans (kku12.mono (by first | exact Nat.le_refl _ | omega))
                        have hzu12 : w8.heap.size ≤ u12.heap.size := ku12.size
                        have hyu12 : u11.heap.size ≤ u12.heap.size := kku12.size
                        clear hrun
                        refine hK.out _ _ (fun _ => hS8.out u12 ku12) ?_
                        clear hK KK
                        try simp only [Act.put, List.setIfInBounds_toArray]
                        have gEu12 : u11.grownBy u12 (some u10.heap.size) := gu12
                        have PL := Pu12
                        clear Pu12 PE
                        replace XV := XV.grown gEu12 (by omega)
                        refine d_step 10 (by kernel_rfl) rfl (fun KK hK => ?_)
                        go_simp
                        generalize hA : World.alloc _ _ = u13
                        have XB : Blk u13 u12.heap.size 57 #[.string K, .slice (some ⟨w8.heap.size, 0, none⟩) 1 1] := by rw [← hA]; exact Blk.new _ _ _
                        have bu13 : Below u12.heap.size u12 u13 := by rw [← hA]; exact below_new _ _
                        have ku13 : Below w8.heap.size w8 u13 := below_after bu13 ku12
                        have hzu13 : w8.heap.size ≤ u13.heap.size := ku13.size
                        have hyu13 : u12.heap.size ≤ u13.heap.size := bu13.size
                        have hBB : u12.heap.size < u13.heap.size := XB.lt
                        clear hA
                        refine hK.out _ _ (fun _ => hS8.out u13 ku13) ?_
                        clear hK KK
                        try simp only [Act.put, List.setIfInBounds_toArray, List.set_cons_zero, List.set_cons_succ]
                        replace PL := own_below PL bu13
                        replace XV := XV.below bu13
                        refine d_step 11 (by kernel_rfl) rfl (fun KK hK => ?_)
                        obtain ⟨swy, wy, hrun, Pwy, gwy, kkwy⟩ := run_append_cells u13 33 u10.heap.size (by first | exact Nat.le_refl _ | omega) PL (src_box XB (by simp [Value.oneCell'])) (by omega)
                        refine step_append_eq rfl _ _ 33 rfl _ _ (by simp [Act.eval]) (by simp [Act.eval]) hrun ?_
                        have kwy : Below w8.heap.size w8 wy := ku13.trans (kkwy.mono (by first | exact Nat.le_refl _ | omega))
                        have hzwy : w8.heap.size ≤ wy.heap.size := kwy.size
                        have hywy : u13.heap.size ≤ wy.heap.size := kkwy.size
                        clear hrun
                        refine hK.out _ _ (fun _ => hS8.out wy kwy) ?_
                        clear hK KK
                        try simp only [Act.put, List.setIfInBounds_toArray]
                        have XV3 := XV.of (gwy.block _ XV.lt (row_ne PL XV (by decide)))
                        refine d_step 13 (by kernel_rfl) rfl (fun KK hK => ?_)
                        obtain ⟨swz, wz, hrun, Pwz, gwz, kkwz⟩ := run_append_cells wy 33 u10.heap.size (by first | exact Nat.le_refl _ | omega) Pwy (HS8.out _ kwy) (by omega)
                        refine step_append_eq rfl _ _ 33 rfl _ _ (by simp [Act.eval]) (by simp [Act.eval]) hrun ?_
                        have kwz : Below w8.heap.size w8 wz := kwy.trans (kkwz.mono (by first | exact Nat.le_refl _ | omega))
                        have hzwz : w8.heap.size ≤ wz.heap.size := kwz.size
                        have hywz : wy.heap.size ≤ wz.heap.size := kkwz.size
                        clear hrun
                        refine hK.out _ _ (fun _ => hS8.out wz kwz) ?_
                        clear hK KK
                        try simp only [Act.put]
                        have XV4 := XV3.of (gwz.block _ XV3.lt (row_ne Pwy XV3 (by decide)))
                        have HP9 : Hid (∃ c9, PartC Cod.cellR wz w.heap.size 57 swz (cap + 1) (putC t x mm) c9) := Lib.hid (ins_fresh HP5.out HN.out hkN hbw5 hz8 (by omega) HE.out hLT hLD Hnd.out XV4 Hver.out z0 Pwz (below_after kwz k8) (by omega))
                        have bw9 : Below w.heap.size w wz := below_after (below_after kwz k8) Hb5
                        clear XV XV3 XV4 XB PL Pwy Pwz gwy gwz kkwy kkwz
                        refine d_step 14 (by kernel_rfl) rfl (fun KK hK => ?_)
                        go_simp
                        refine hK.out _ _ (fun h => by exact absurd h (by decide)) ?_
                        clear hK KK
                        refine d_done (by kernel_rfl) ?_ _
                        try simp only [Act.put, List.setIfInBounds_toArray, List.set_cons_zero, List.set_cons_succ]
                        obtain ⟨c9, hP9⟩ := HP9.out
                        have HP10 := Lib.hid hP9
                        clear hP9 HP9
                        go_wp2
                        go_roundw
                        case rel => exact ⟨ki + 1, _, putC t x mm, c9, cap + 1, rfl, by go_num, by omega, Hf2, HlenN, HP10, bw9⟩
                        case measure => simp [intOf]; omega
                      · skip
                        go_simp
                        generalize hA : World.alloc _ _ = u14
                        have XB : Blk u14 u11.heap.size 57 #[.string K, .slice (some ⟨w8.heap.size, 0, none⟩) 1 1] := by rw [← hA]; exact Blk.new _ _ _
                        have bu14 : Below u11.heap.size u11 u14 := by rw [← hA]; exact below_new _ _
                        have ku14 : Below w8.heap.size w8 u14 := below_after bu14 ku11
                        have hzu14 : w8.heap.size ≤ u14.heap.size := ku14.size
                        have hyu14 : u11.heap.size ≤ u14.heap.size := bu14.size
                        have hBB : u11.heap.size < u14.heap.size := XB.lt
                        clear hA
                        refine hK.out _ _ (fun _ => hS8.out u14 ku14) ?_
                        clear hK KK
                        try simp only [Act.put, List.setIfInBounds_toArray, List.set_cons_zero, List.set_cons_succ]
                        replace PE := own_below PE bu14
                        replace XV := XV.below bu14
                        refine d_step 4 (by kernel_rfl) rfl (fun KK hK => ?_)
                        obtain ⟨su15, u15, hrun, Pu15, gu15, kku15⟩ := run_append_cells u14 33 u10.heap.size (by first | exact Nat.le_refl _ | omega) PE (HT8.out _ ku14) (by omega)
                        refine step_append_eq rfl _ _ 33 rfl _ _ (by simp [Act.eval]) (by simp [Act.eval]) hrun ?_
                        have ku15 : Below w8.heap.size w8 u15 := ku14.trans (kku15.mono (by first | exact Nat.le_refl _ | omega))
                        have hzu15 : w8.heap.size ≤ u15.heap.size := ku15.size
                        have hyu15 : u14.heap.size ≤ u15.heap.size := kku15.size
                        clear hrun
                        refine hK.out _ _ (fun _ => hS8.out u15 ku15) ?_
                        clear hK KK
                        try simp only [Act.put, List.setIfInBounds_toArray]
                        have gEu15 : u14.grownBy u15 (some u10.heap.size) := gu15
                        have PL := Pu15
                        clear Pu15 PE
                        replace XV := XV.grown gEu15 (by omega)
                        replace XB := XB.grown gEu15 (by omega)
                        refine d_step 11 (by kernel_rfl) rfl (fun KK hK => ?_)
                        obtain ⟨swy, wy, hrun, Pwy, gwy, kkwy⟩ := run_append_cells u15 33 u10.heap.size (by first | exact Nat.le_refl _ | omega) PL (src_box XB (by simp [Value.oneCell'])) (by omega)
                        refine step_append_eq rfl _ _ 33 rfl _ _ (by simp [Act.eval]) (by simp [Act.eval]) hrun ?_
                        have kwy : Below w8.heap.size w8 wy := ku15.trans (kkwy.mono (by first | exact Nat.le_refl _ | omega))
                        have hzwy : w8.heap.size ≤ wy.heap.size := kwy.size
                        have hywy : u15.heap.size ≤ wy.heap.size := kkwy.size
                        clear hrun
                        refine hK.out _ _ (fun _ => hS8.out wy kwy) ?_
                        clear hK KK
                        try simp only [Act.put]
                        have XV3 := XV.of (gwy.block _ XV.lt (row_ne PL XV (by decide)))
                        refine d_step 13 (by kernel_rfl) rfl (fun KK hK => ?_)
                        obtain ⟨swz, wz, hrun, Pwz, gwz, kkwz⟩ := run_append_cells wy 33 u10.heap.size (by first | exact Nat.le_refl _ | omega) Pwy (HS8.out _ kwy) (by omega)
                        refine step_append_eq rfl _ _ 33 rfl _ _ (by simp [Act.eval]) (by simp [Act.eval]) hrun ?_
                        have kwz : Below w8.heap.size w8 wz := kwy.trans (kkwz.mono (by first | exact Nat.le_refl _ | omega))
                        have hzwz : w8.heap.size ≤ wz.heap.size := kwz.size
                        have hywz : wy.heap.size ≤ wz.heap.size := kkwz.size
                        clear hrun
                        refine hK.out _ _ (fun _ => hS8.out wz kwz) ?_
                        clear hK KK
                        try simp only [Act.put]
                        have XV4 := XV3.of (gwz.block _ XV3.lt (row_ne Pwy XV3 (by decide)))
                        have HP9 : Hid (∃ c9, PartC Cod.cellR wz w.heap.size 57 swz (cap + 1) (putC t x mm) c9) := Lib.hid (ins_fresh HP5.out HN.out hkN hbw5 hz8 (by omega) HE.out hLT hLD Hnd.out XV4 Hver.out z0 Pwz (below_after kwz k8) (by omega))
                        have bw9 : Below w.heap.size w wz := below_after (below_after kwz k8) Hb5
                        clear XV XV3 XV4 XB PL Pwy Pwz gwy gwz kkwy kkwz
                        refine d_step 14 (by kernel_rfl) rfl (fun KK hK => ?_)
                        go_simp
                        refine hK.out _ _ (fun h => by exact absurd h (by decide)) ?_
                        clear hK KK
                        refine d_done (by kernel_rfl) ?_ _
                        try simp only [Act.put, List.setIfInBounds_toArray, List.set_cons_zero, List.set_cons_succ]
                        obtain ⟨c9, hP9⟩ := HP9.out
                        have HP10 := Lib.hid hP9
                        clear hP9 HP9
                        go_wp2
                        go_roundw
                        case rel => exact ⟨ki + 1, _, putC t x mm, c9, cap + 1, rfl, by go_num, by omega, Hf2, HlenN, HP10, bw9⟩
                        case measure => simp [intOf]; omega
                    · skip
                      go_simp
                      generalize hA : World.alloc _ _ = u16
                      have XB : Blk u16 u10.heap.size 57 #[.string K, .slice (some ⟨w8.heap.size, 0, none⟩) 1 1] := by rw [← hA]; exact Blk.new _ _ _
                      have bu16 : Below u10.heap.size u10 u16 := by rw [← hA]; exact below_new _ _
                      have ku16 : Below w8.heap.size w8 u16 := below_after bu16 ku10
                      have hzu16 : w8.heap.size ≤ u16.heap.size := ku16.size
                      have hyu16 : u10.heap.size ≤ u16.heap.size := bu16.size
                      have hBB : u10.heap.size < u16.heap.size := XB.lt
                      clear hA
                      refine hK.out _ _ (fun _ => hS8.out u16 ku16) ?_
                      clear hK KK
                      try simp only [Act.put, List.setIfInBounds_toArray, List.set_cons_zero, List.set_cons_succ]
                      replace XV := XV.below bu16
                      refine d_step 0 (by kernel_rfl) rfl (fun KK hK => ?_)
                      go_simp
                      generalize hA : World.alloc _ _ = u17
                      have PE : u17.ownsRow u16.heap.size 57 2 (.slice (some ⟨u16.heap.size, 0, none⟩) 0 0) 0 [] := by rw [← hA]; exact made0 rfl (Nat.le_refl _)
                      have bu17 : Below u16.heap.size u16 u17 := by rw [← hA]; exact below_new _ _
                      have ku17 : Below w8.heap.size w8 u17 := below_after bu17 ku16
                      have hzu17 : w8.heap.size ≤ u17.heap.size := ku17.size
                      have hyu17 : u16.heap.size ≤ u17.heap.size := bu17.size
                      have hEB : u16.heap.size < u17.heap.size := (PE.lt _ rfl).2
                      clear hA
                      refine hK.out _ _ (fun _ => hS8.out u17 ku17) ?_
                      clear hK KK
                      try simp only [Act.put, List.setIfInBounds_toArray, List.set_cons_zero, List.set_cons_succ]
                      replace XV := XV.below bu17
                      replace XB := XB.below bu17
                      refine d_step 4 (by kernel_rfl) rfl (fun KK hK => ?_)
                      obtain ⟨su18, u18, hrun, Pu18, gu18, kku18⟩ := run_append_cells u17 33 u16.heap.size (by first | exact Nat.le_refl _ | omega) PE (HT8.out _ ku17) (by omega)
                      refine step_append_eq rfl _ _ 33 rfl _ _ (by simp [Act.eval]) (by simp [Act.eval]) hrun ?_
                      have ku18 : Below w8.heap.size w8 u18 := ku17.trans (kku18.mono (by first | exact Nat.le_refl _ | omega))
                      have hzu18 : w8.heap.size ≤ u18.heap.size := ku18.size
                      have hyu18 : u17.heap.size ≤ u18.heap.size := kku18.size
                      clear hrun
                      refine hK.out _ _ (fun _ => hS8.out u18 ku18) ?_
                      clear hK KK
                      try simp only [Act.put, List.setIfInBounds_toArray]
                      have gEu18 : u17.grownBy u18 (some u16.heap.size) := gu18
                      have PL := Pu18
                      clear Pu18 PE
                      replace XV := XV.grown gEu18 (by omega)
                      replace XB := XB.grown gEu18 (by omega)
                      refine d_step 11 (by kernel_rfl) rfl (fun KK hK => ?_)
                      obtain ⟨swy, wy, hrun, Pwy, gwy, kkwy⟩ := run_append_cells u18 33 u16.heap.size (by first | exact Nat.le_refl _ | omega) PL (src_box XB (by simp [Value.oneCell'])) (by omega)
                      refine step_append_eq rfl _ _ 33 rfl _ _ (by simp [Act.eval]) (by simp [Act.eval]) hrun ?_
                      have kwy : Below w8.heap.size w8 wy := ku18.trans (kkwy.mono (by first | exact Nat.le_refl _ | omega))
                      have hzwy : w8.heap.size ≤ wy.heap.size := kwy.size
                      have hywy : u18.heap.size ≤ wy.heap.size := kkwy.size
                      clear hrun
                      refine hK.out _ _ (fun _ => hS8.out wy kwy) ?_
                      clear hK KK
                      try simp only [Act.put]
                      have XV3 := XV.of (gwy.block _ XV.lt (row_ne PL XV (by decide)))
                      refine d_step 13 (by kernel_rfl) rfl (fun KK hK => ?_)
                      obtain ⟨swz, wz, hrun, Pwz, gwz, kkwz⟩ := run_append_cells wy 33 u16.heap.size (by first | exact Nat.le_refl _ | omega) Pwy (HS8.out _ kwy) (by omega)
                      refine step_append_eq rfl _ _ 33 rfl _ _ (by simp [Act.eval]) (by simp [Act.eval]) hrun ?_
                      have kwz : Below w8.heap.size w8 wz := kwy.trans (kkwz.mono (by first | exact Nat.le_refl _ | omega))
                      have hzwz : w8.heap.size ≤ wz.heap.size := kwz.size
                      have hywz : wy.heap.size ≤ wz.heap.size := kkwz.size
                      clear hrun
                      refine hK.out _ _ (fun _ => hS8.out wz kwz) ?_
                      clear hK KK
                      try simp only [Act.put]
                      have XV4 := XV3.of (gwz.block _ XV3.lt (row_ne Pwy XV3 (by decide)))
                      have HP9 : Hid (∃ c9, PartC Cod.cellR wz w.heap.size 57 swz (cap + 1) (putC t x mm) c9) := Lib.hid (ins_fresh HP5.out HN.out hkN hbw5 hz8 (by omega) HE.out hLT hLD Hnd.out XV4 Hver.out z0 Pwz (below_after kwz k8) (by omega))
                      have bw9 : Below w.heap.size w wz := below_after (below_after kwz k8) Hb5
                      clear XV XV3 XV4 XB PL Pwy Pwz gwy gwz kkwy kkwz
                      refine d_step 14 (by kernel_rfl) rfl (fun KK hK => ?_)
                      go_simp
                      refine hK.out _ _ (fun h => by exact absurd h (by decide)) ?_
                      clear hK KK
                      refine d_done (by kernel_rfl) ?_ _
                      try simp only [Act.put, List.setIfInBounds_toArray, List.set_cons_zero, List.set_cons_succ]
                      obtain ⟨c9, hP9⟩ := HP9.out
                      have HP10 := Lib.hid hP9
                      clear hP9 HP9
                      go_wp2
                      go_roundw
                      case rel => exact ⟨ki + 1, _, putC t x mm, c9, cap + 1, rfl, by go_num, by omega, Hf2, HlenN, HP10, bw9⟩
                      case measure => simp [intOf]; omega
                · skip
                  go_wp2_with fail
                  go_quiet (fail)
                  go_wp2_with fail
                  go_quiet (fail)
                  go_upto_region 13 with fail
                  generalize hw5 : World.drewN _ _ = w5
                  have hbo : Below wo.heap.size wo w5 := by rw [← hw5]; (repeat (first | (with_reducible exact Below.refl _ _) | (with_reducible refine below_setCell ?_ (by first | (simp; done) | (simp; omega) | omega)) | (with_reducible refine below_alloc _ ?_) | (with_reducible refine below_drewN ?_ _) | (with_reducible assumption) | (with_reducible refine below_after (by assumption) ?_)))
                  have BX5 : Blk w5 wo.heap.size 45 #[.string K, .string V, .bool G] := by rw [← hw5]; exact (HX.out.drewN _).drewN _
                  have BV5 : Blk w5 (wo.heap.size + 1) 77 #[.int .i64 t, .string V, .bool G] := by rw [← hw5]; exact (HXV.out.drewN _).drewN _
                  have HP5 := Lib.hid (Hp.out.below hbo)
                  have Hb5 : Below w.heap.size w w5 := below_after hbo hb
                  have hbw5 : w.heap.size ≤ w5.heap.size := Hb5.size
                  have ho5 := HP5.out.choose_spec.1
                  have hcl5 : cs.length = N * 2 := ho5.1
                  have hone := oneCell_cellR HP5.out HN.out
                  obtain ⟨LDc, hLD⟩ : ∃ L, L = cs.drop (k * 2) := ⟨_, rfl⟩
                  obtain ⟨LTc, hLT⟩ : ∃ L, L = cs.take (k * 2) := ⟨_, rfl⟩
                  have hLD1 : ∀ u ∈ LDc, u.oneCell' = true := fun u hu => by rw [hLD] at hu; exact hone u (List.mem_of_mem_drop hu)
                  have HSD : Hid (SrcOf w5 (.slice (some ⟨g, k * 2, none⟩) (N - k) (cap - k)) (N - k) LDc) := Lib.hid (by rw [hLD]; exact (src_drop ho5 hone k hk))
                  have HST : Hid (SrcOf w5 (.slice (some ⟨g, 0, none⟩) k cap) k LTc) := Lib.hid (by rw [hLT]; exact (src_take ho5 hone k hk))
                  have Hnd : Hid (k + (N - k) = N) := Lib.hid (by omega)
                  have hkN : k ≤ N := hk
                  have HlenN : Hid ((putC t x mm).length = N + 1) := Lib.hid (by rw [HE.out, List.length_append, List.length_take, List.length_cons, List.length_drop]; have := HN.out; omega)
                  clear hw5 hbo HX HXV ho5 hone hcl5
                  obtain ⟨s7, w7, hrun7, ho7, hg7, hb7⟩ := run_append_cells (w5.alloc (.cells #[] 57)) 33 w5.heap.size (by simp) (made0 (w0 := w5) (e := 57) (size := 2) rfl (Nat.le_refl _)) (HSD.out.below (below_new _ _)) (by omega)
                  go_wp2_with (at_builtin; go_must (refine Lib.wpList_append_run _ rfl _ _ 33 33 rfl _ _ rfl rfl s7 w7 hrun7 ?_))
                  have k7 : Below w5.heap.size w5 w7 := (below_new _ _).trans hb7
                  have HS7 : Hid (SrcOf w7 s7 (N - k) LDc) := Lib.hid (by have := src_own ho7 (by simpa using hLD1); simpa using this)
                  clear hrun7 ho7 hg7 hb7
                  go_upto_region 14 with fail
                  refine wp_region_d 14 (fun w' => w'.cell? ⟨wo.heap.size, 0, none⟩ = some (.string K) ∧ w'.cell? ⟨wo.heap.size + 1, 0, none⟩ = some (.int .i64 t) ∧ w'.cell? ⟨wo.heap.size + 1, 1, none⟩ = some (.string V) ∧ w'.cell? ⟨wo.heap.size + 1, 2, none⟩ = some (.bool G)) (by kernel_rfl) ?_
                  obtain ⟨w8, hw8⟩ : ∃ w8, w7.drew = w8 := ⟨_, rfl⟩
                  have k8 : Below w5.heap.size w5 w8 := by rw [← hw8]; exact k7.drew
                  have b78 : Below w7.heap.size w7 w8 := by rw [← hw8]; exact (Below.refl _ _).drew
                  rw [hw8]
                  clear hw8
                  have hS8 : Hid (∀ u, Below w8.heap.size w8 u → u.cell? ⟨wo.heap.size, 0, none⟩ = some (.string K) ∧ u.cell? ⟨wo.heap.size + 1, 0, none⟩ = some (.int .i64 t) ∧ u.cell? ⟨wo.heap.size + 1, 1, none⟩ = some (.string V) ∧ u.cell? ⟨wo.heap.size + 1, 2, none⟩ = some (.bool G)) := Lib.hid fun u b => ⟨((BX5.below k8).below b).cell 0 rfl, ((BV5.below k8).below b).cell 0 rfl, ((BV5.below k8).below b).cell 1 rfl, ((BV5.below k8).below b).cell 2 rfl⟩
                  have hS := hS8.out w8 (Below.refl _ _)
                  have HS8 : Hid (∀ u, Below w8.heap.size w8 u → SrcOf u s7 (N - k) LDc) := Lib.hid fun u b => (HS7.out.below b78).below b
                  have HT8 : Hid (∀ u, Below w8.heap.size w8 u → SrcOf u (.slice (some ⟨g, 0, none⟩) k cap) k LTc) := Lib.hid fun u b => (HST.out.below k8).below b
                  have hz8 : w5.heap.size ≤ w8.heap.size := k8.size
                  clear HS7 k7 b78
                  refine d_take (f := 30) (v := ?_) 1 rfl (by kernel_rfl) (fun _ _ _ h => h) (Or.inl ⟨by rfl, ?_⟩) hS ?_
                  rotate_left
                  · intro wx hx
                    obtain ⟨x0, x1, x2, x3⟩ := hx
                    first | (go_simp; done) | (go_simp; with_reducible rfl)
                  simp only [Act.put, List.setIfInBounds_toArray]
                  refine d_take (f := 30) (v := ?_) 2 rfl (by kernel_rfl) (fun _ _ _ h => h) (Or.inl ⟨by rfl, ?_⟩) hS ?_
                  rotate_left
                  · intro wx hx
                    obtain ⟨x0, x1, x2, x3⟩ := hx
                    first | (go_simp; done) | (go_simp; with_reducible rfl)
                  simp only [Act.put]
                  refine d_take (f := 30) (v := ?_) 3 rfl (by kernel_rfl) (fun _ _ _ h => h) (Or.inl ⟨by rfl, ?_⟩) hS ?_
                  rotate_left
                  · intro wx hx
                    obtain ⟨x0, x1, x2, x3⟩ := hx
                    first | (go_simp; done) | (go_simp; with_reducible rfl)
                  simp only [Act.put]
                  refine d_take (f := 30) (v := ?_) 5 rfl (by kernel_rfl) (fun _ _ _ h => h) (Or.inl ⟨by rfl, ?_⟩) hS ?_
                  rotate_left
                  · intro wx hx
                    obtain ⟨x0, x1, x2, x3⟩ := hx
                    first | (go_simp; done) | (go_simp; with_reducible rfl)
                  simp only [Act.put]
                  refine d_take (f := 30) (v := ?_) 6 rfl (by kernel_rfl) (fun _ _ _ h => h) (Or.inl ⟨by rfl, ?_⟩) hS ?_
                  rotate_left
                  · intro wx hx
                    obtain ⟨x0, x1, x2, x3⟩ := hx
                    first | (go_simp; done) | (go_simp; with_reducible rfl)
                  simp only [Act.put]
                  refine d_take (f := 30) (v := ?_) 7 rfl (by kernel_rfl) (fun _ _ _ h => h) (Or.inl ⟨by rfl, ?_⟩) hS ?_
                  rotate_left
                  · intro wx hx
                    obtain ⟨x0, x1, x2, x3⟩ := hx
                    first | (go_simp; done) | (go_simp; with_reducible rfl)
                  simp only [Act.put]
                  refine d_take (f := 30) (v := ?_) 12 rfl (by kernel_rfl) (fun _ _ _ h => h) (Or.inl ⟨by rfl, ?_⟩) hS ?_
                  rotate_left
                  · intro wx hx
                    obtain ⟨x0, x1, x2, x3⟩ := hx
                    first | (go_simp; done) | (go_simp; with_reducible rfl)
                  simp only [Act.put]
                  have kw8 : Below w8.heap.size w8 w8 := Below.refl _ _
                  refine d_two 0 8 (by kernel_rfl) rfl rfl (fun KK hK => ?_) (fun KK hK => ?_)
                  · skip
                    go_simp
                    generalize hA : World.alloc _ _ = u1
                    have PE : u1.ownsRow w8.heap.size 57 2 (.slice (some ⟨w8.heap.size, 0, none⟩) 0 0) 0 [] := by rw [← hA]; exact made0 rfl (Nat.le_refl _)
                    have bu1 : Below w8.heap.size w8 u1 := by rw [← hA]; exact below_new _ _
                    have ku1 : Below w8.heap.size w8 u1 := below_after bu1 kw8
                    have hzu1 : w8.heap.size ≤ u1.heap.size := ku1.size
                    have hyu1 : w8.heap.size ≤ u1.heap.size := bu1.size
                    have hEB : w8.heap.size < u1.heap.size := (PE.lt _ rfl).2
                    clear hA
                    refine hK.out _ _ (fun _ => hS8.out u1 ku1) ?_
                    clear hK KK
                    try simp only [Act.put, List.setIfInBounds_toArray, List.set_cons_zero, List.set_cons_succ]
                    refine d_two 4 8 (by kernel_rfl) rfl rfl (fun KK hK => ?_) (fun KK hK => ?_)
                    · skip
                      obtain ⟨su2, u2, hrun, Pu2, gu2, kku2⟩ := run_append_cells u1 33 w8.heap.size (by first | exact Nat.le_refl _ | omega) PE (HT8.out _ ku1) (by omega)
                      refine step_append_eq rfl _ _ 33 rfl _ _ (by simp [Act.eval]) (by simp [Act.eval]) hrun ?_
                      have ku2 : Below w8.heap.size w8 u2 := ku1.trans (kku2.mono (by first | exact Nat.le_refl _ | omega))
                      have hzu2 : w8.heap.size ≤ u2.heap.size := ku2.size
                      have hyu2 : u1.heap.size ≤ u2.heap.size := kku2.size
                      clear hrun
                      refine hK.out _ _ (fun _ => hS8.out u2 ku2) ?_
                      clear hK KK
                      try simp only [Act.put, List.setIfInBounds_toArray]
                      have gEu2 : u1.grownBy u2 (some w8.heap.size) := gu2
                      have PL := Pu2
                      clear Pu2 PE
                      refine d_step 8 (by kernel_rfl) rfl (fun KK hK => ?_)
                      go_simp
                      generalize hA : World.alloc _ _ = u3
                      have XV : Blk u3 u2.heap.size 77 #[.int .i64 t, .string V, .bool G] := by rw [← hA]; exact Blk.new _ _ _
                      have bu3 : Below u2.heap.size u2 u3 := by rw [← hA]; exact below_new _ _
                      have ku3 : Below w8.heap.size w8 u3 := below_after bu3 ku2
                      have hzu3 : w8.heap.size ≤ u3.heap.size := ku3.size
                      have hyu3 : u2.heap.size ≤ u3.heap.size := bu3.size
                      have hVB : u2.heap.size < u3.heap.size := XV.lt
                      clear hA
                      refine hK.out _ _ (fun _ => hS8.out u3 ku3) ?_
                      clear hK KK
                      try simp only [Act.put, List.setIfInBounds_toArray, List.set_cons_zero, List.set_cons_succ]
                      have hS := hS8.out _ ku3
                      refine d_takeY (v := ?_) 9 rfl (by kernel_rfl) (fun _ _ _ h => h) (Or.inl ⟨by rfl, ?_⟩) hS ?_
                      rotate_left
                      · intro wx _
                        first | (go_simp; done) | (go_simp; with_reducible rfl)
                      simp only [Act.put, List.setIfInBounds_toArray]
                      clear hS
                      replace PL := own_below PL bu3
                      refine d_step 10 (by kernel_rfl) rfl (fun KK hK => ?_)
                      go_simp
                      generalize hA : World.alloc _ _ = u4
                      have XB : Blk u4 u3.heap.size 57 #[.string K, .slice (some ⟨u2.heap.size, 0, none⟩) 1 1] := by rw [← hA]; exact Blk.new _ _ _
                      have bu4 : Below u3.heap.size u3 u4 := by rw [← hA]; exact below_new _ _
                      have ku4 : Below w8.heap.size w8 u4 := below_after bu4 ku3
                      have hzu4 : w8.heap.size ≤ u4.heap.size := ku4.size
                      have hyu4 : u3.heap.size ≤ u4.heap.size := bu4.size
                      have hBB : u3.heap.size < u4.heap.size := XB.lt
                      clear hA
                      refine hK.out _ _ (fun _ => hS8.out u4 ku4) ?_
                      clear hK KK
                      try simp only [Act.put, List.setIfInBounds_toArray, List.set_cons_zero, List.set_cons_succ]
                      replace PL := own_below PL bu4
                      replace XV := XV.below bu4
                      refine d_step 11 (by kernel_rfl) rfl (fun KK hK => ?_)
                      obtain ⟨swy, wy, hrun, Pwy, gwy, kkwy⟩ := run_append_cells u4 33 w8.heap.size (by first | exact Nat.le_refl _ | omega) PL (src_box XB (by simp [Value.oneCell'])) (by omega)
                      refine step_append_eq rfl _ _ 33 rfl _ _ (by simp [Act.eval]) (by simp [Act.eval]) hrun ?_
                      have kwy : Below w8.heap.size w8 wy := ku4.trans (kkwy.mono (by first | exact Nat.le_refl _ | omega))
                      have hzwy : w8.heap.size ≤ wy.heap.size := kwy.size
                      have hywy : u4.heap.size ≤ wy.heap.size := kkwy.size
                      clear hrun
                      refine hK.out _ _ (fun _ => hS8.out wy kwy) ?_
                      clear hK KK
                      try simp only [Act.put, List.setIfInBounds_toArray]
                      have XV3 := XV.of (gwy.block _ XV.lt (row_ne PL XV (by decide)))
                      refine d_step 13 (by kernel_rfl) rfl (fun KK hK => ?_)
                      obtain ⟨swz, wz, hrun, Pwz, gwz, kkwz⟩ := run_append_cells wy 33 w8.heap.size (by first | exact Nat.le_refl _ | omega) Pwy (HS8.out _ kwy) (by omega)
                      refine step_append_eq rfl _ _ 33 rfl _ _ (by simp [Act.eval]) (by simp [Act.eval]) hrun ?_
                      have kwz : Below w8.heap.size w8 wz := kwy.trans (kkwz.mono (by first | exact Nat.le_refl _ | omega))
                      have hzwz : w8.heap.size ≤ wz.heap.size := kwz.size
                      have hywz : wy.heap.size ≤ wz.heap.size := kkwz.size
                      clear hrun
                      refine hK.out _ _ (fun _ => hS8.out wz kwz) ?_
                      clear hK KK
                      try simp only [Act.put]
                      have XV4 := XV3.of (gwz.block _ XV3.lt (row_ne Pwy XV3 (by decide)))
                      have HP9 : Hid (∃ c9, PartC Cod.cellR wz w.heap.size 57 swz (N + 1) (putC t x mm) c9) := Lib.hid (ins_fresh HP5.out HN.out hkN hbw5 hz8 (by omega) HE.out hLT hLD Hnd.out XV4 Hver.out z0 Pwz (below_after kwz k8) (by omega))
                      have bw9 : Below w.heap.size w wz := below_after (below_after kwz k8) Hb5
                      clear XV XV3 XV4 XB PL Pwy Pwz gwy gwz kkwy kkwz
                      refine d_step 14 (by kernel_rfl) rfl (fun KK hK => ?_)
                      go_simp
                      refine hK.out _ _ (fun h => by exact absurd h (by decide)) ?_
                      clear hK KK
                      refine d_done (by kernel_rfl) ?_ _
                      try simp only [Act.put, List.setIfInBounds_toArray, List.set_cons_zero, List.set_cons_succ]
                      obtain ⟨c9, hP9⟩ := HP9.out
                      have HP10 := Lib.hid hP9
                      clear hP9 HP9
                      go_wp2
                      go_roundw
                      case rel => exact ⟨ki + 1, _, putC t x mm, c9, N + 1, rfl, by go_num, by omega, Hf2, HlenN, HP10, bw9⟩
                      case measure => simp [intOf]; omega
                    · skip
                      go_simp
                      generalize hA : World.alloc _ _ = u5
                      have XV : Blk u5 u1.heap.size 77 #[.int .i64 t, .string V, .bool G] := by rw [← hA]; exact Blk.new _ _ _
                      have bu5 : Below u1.heap.size u1 u5 := by rw [← hA]; exact below_new _ _
                      have ku5 : Below w8.heap.size w8 u5 := below_after bu5 ku1
                      have hzu5 : w8.heap.size ≤ u5.heap.size := ku5.size
                      have hyu5 : u1.heap.size ≤ u5.heap.size := bu5.size
                      have hVB : u1.heap.size < u5.heap.size := XV.lt
                      clear hA
                      refine hK.out _ _ (fun _ => hS8.out u5 ku5) ?_
                      clear hK KK
                      try simp only [Act.put, List.setIfInBounds_toArray, List.set_cons_zero, List.set_cons_succ]
                      have hS := hS8.out _ ku5
                      refine d_takeY (v := ?_) 9 rfl (by kernel_rfl) (fun _ _ _ h => h) (Or.inl ⟨by rfl, ?_⟩) hS ?_
                      rotate_left
                      · intro wx _
                        first | (go_simp; done) | (go_simp; with_reducible rfl)
                      simp only [Act.put, List.setIfInBounds_toArray]
                      clear hS
                      replace PE := own_below PE bu5
                      refine d_two 4 10 (by kernel_rfl) rfl rfl (fun KK hK => ?_) (fun KK hK => ?_)
                      · skip
                        obtain ⟨su6, u6, hrun, Pu6, gu6, kku6⟩ := run_append_cells u5 33 w8.heap.size (by first | exact Nat.le_refl _ | omega) PE (HT8.out _ ku5) (by omega)
                        refine step_append_eq rfl _ _ 33 rfl _ _ (by simp [Act.eval]) (by simp [Act.eval]) hrun ?_
                        have ku6 : Below w8.heap.size w8 u6 := ku5.trans (kku6.mono (by first | exact Nat.le_refl _ | omega))
                        have hzu6 : w8.heap.size ≤ u6.heap.size := ku6.size
                        have hyu6 : u5.heap.size ≤ u6.heap.size := kku6.size
                        clear hrun
                        refine hK.out _ _ (fun _ => hS8.out u6 ku6) ?_
                        clear hK KK
                        try simp only [Act.put]
                        have gEu6 : u5.grownBy u6 (some w8.heap.size) := gu6
                        have PL := Pu6
                        clear Pu6 PE
                        replace XV := XV.grown gEu6 (by omega)
                        refine d_step 10 (by kernel_rfl) rfl (fun KK hK => ?_)
                        go_simp
                        generalize hA : World.alloc _ _ = u7
                        have XB : Blk u7 u6.heap.size 57 #[.string K, .slice (some ⟨u1.heap.size, 0, none⟩) 1 1] := by rw [← hA]; exact Blk.new _ _ _
                        have bu7 : Below u6.heap.size u6 u7 := by rw [← hA]; exact below_new _ _
                        have ku7 : Below w8.heap.size w8 u7 := below_after bu7 ku6
                        have hzu7 : w8.heap.size ≤ u7.heap.size := ku7.size
                        have hyu7 : u6.heap.size ≤ u7.heap.size := bu7.size
                        have hBB : u6.heap.size < u7.heap.size := XB.lt
                        clear hA
                        refine hK.out _ _ (fun _ => hS8.out u7 ku7) ?_
                        clear hK KK
                        try simp only [Act.put, List.setIfInBounds_toArray, List.set_cons_zero, List.set_cons_succ]
                        replace PL := own_below PL bu7
                        replace XV := XV.below bu7
                        refine d_step 11 (by kernel_rfl) rfl (fun KK hK => ?_)
                        obtain ⟨swy, wy, hrun, Pwy, gwy, kkwy⟩ := run_append_cells u7 33 w8.heap.size (by first | exact Nat.le_refl _ | omega) PL (src_box XB (by simp [Value.oneCell'])) (by omega)
                        refine step_append_eq rfl _ _ 33 rfl _ _ (by simp [Act.eval]) (by simp [Act.eval]) hrun ?_
                        have kwy : Below w8.heap.size w8 wy := ku7.trans (kkwy.mono (by first | exact Nat.le_refl _ | omega))
                        have hzwy : w8.heap.size ≤ wy.heap.size := kwy.size
                        have hywy : u7.heap.size ≤ wy.heap.size := kkwy.size
                        clear hrun
                        refine hK.out _ _ (fun _ => hS8.out wy kwy) ?_
                        clear hK KK
                        try simp only [Act.put, List.setIfInBounds_toArray]
                        have XV3 := XV.of (gwy.block _ XV.lt (row_ne PL XV (by decide)))
                        refine d_step 13 (by kernel_rfl) rfl (fun KK hK => ?_)
                        obtain ⟨swz, wz, hrun, Pwz, gwz, kkwz⟩ := run_append_cells wy 33 w8.heap.size (by first | exact Nat.le_refl _ | omega) Pwy (HS8.out _ kwy) (by omega)
                        refine step_append_eq rfl _ _ 33 rfl _ _ (by simp [Act.eval]) (by simp [Act.eval]) hrun ?_
                        have kwz : Below w8.heap.size w8 wz := kwy.trans (kkwz.mono (by first | exact Nat.le_refl _ | omega))
                        have hzwz : w8.heap.size ≤ wz.heap.size := kwz.size
                        have hywz : wy.heap.size ≤ wz.heap.size := kkwz.size
                        clear hrun
                        refine hK.out _ _ (fun _ => hS8.out wz kwz) ?_
                        clear hK KK
                        try simp only [Act.put]
                        have XV4 := XV3.of (gwz.block _ XV3.lt (row_ne Pwy XV3 (by decide)))
                        have HP9 : Hid (∃ c9, PartC Cod.cellR wz w.heap.size 57 swz (N + 1) (putC t x mm) c9) := Lib.hid (ins_fresh HP5.out HN.out hkN hbw5 hz8 (by omega) HE.out hLT hLD Hnd.out XV4 Hver.out z0 Pwz (below_after kwz k8) (by omega))
                        have bw9 : Below w.heap.size w wz := below_after (below_after kwz k8) Hb5
                        clear XV XV3 XV4 XB PL Pwy Pwz gwy gwz kkwy kkwz
                        refine d_step 14 (by kernel_rfl) rfl (fun KK hK => ?_)
                        go_simp
                        refine hK.out _ _ (fun h => by exact absurd h (by decide)) ?_
                        clear hK KK
                        refine d_done (by kernel_rfl) ?_ _
                        try simp only [Act.put, List.setIfInBounds_toArray, List.set_cons_zero, List.set_cons_succ]
                        obtain ⟨c9, hP9⟩ := HP9.out
                        have HP10 := Lib.hid hP9
                        clear hP9 HP9
                        go_wp2
                        go_roundw
                        case rel => exact ⟨ki + 1, _, putC t x mm, c9, N + 1, rfl, by go_num, by omega, Hf2, HlenN, HP10, bw9⟩
                        case measure => simp [intOf]; omega
                      · skip
                        go_simp
                        generalize hA : World.alloc _ _ = u8
                        have XB : Blk u8 u5.heap.size 57 #[.string K, .slice (some ⟨u1.heap.size, 0, none⟩) 1 1] := by rw [← hA]; exact Blk.new _ _ _
                        have bu8 : Below u5.heap.size u5 u8 := by rw [← hA]; exact below_new _ _
                        have ku8 : Below w8.heap.size w8 u8 := below_after bu8 ku5
                        have hzu8 : w8.heap.size ≤ u8.heap.size := ku8.size
                        have hyu8 : u5.heap.size ≤ u8.heap.size := bu8.size
                        have hBB : u5.heap.size < u8.heap.size := XB.lt
                        clear hA
                        refine hK.out _ _ (fun _ => hS8.out u8 ku8) ?_
                        clear hK KK
                        try simp only [Act.put, List.setIfInBounds_toArray, List.set_cons_zero, List.set_cons_succ]
                        replace PE := own_below PE bu8
                        replace XV := XV.below bu8
                        refine d_step 4 (by kernel_rfl) rfl (fun KK hK => ?_)
                        obtain ⟨su9, u9, hrun, Pu9, gu9, kku9⟩ := run_append_cells u8 33 w8.heap.size (by first | exact Nat.le_refl _ | omega) PE (HT8.out _ ku8) (by omega)
                        refine step_append_eq rfl _ _ 33 rfl _ _ (by simp [Act.eval]) (by simp [Act.eval]) hrun ?_
                        have ku9 : Below w8.heap.size w8 u9 := ku8.trans (kku9.mono (by first | exact Nat.le_refl _ | omega))
                        have hzu9 : w8.heap.size ≤ u9.heap.size := ku9.size
                        have hyu9 : u8.heap.size ≤ u9.heap.size := kku9.size
                        clear hrun
                        refine hK.out _ _ (fun _ => hS8.out u9 ku9) ?_
                        clear hK KK
                        try simp only [Act.put, List.setIfInBounds_toArray]
                        have gEu9 : u8.grownBy u9 (some w8.heap.size) := gu9
                        have PL := Pu9
                        clear Pu9 PE
                        replace XV := XV.grown gEu9 (by omega)
                        replace XB := XB.grown gEu9 (by omega)
                        refine d_step 11 (by kernel_rfl) rfl (fun KK hK => ?_)
                        obtain ⟨swy, wy, hrun, Pwy, gwy, kkwy⟩ := run_append_cells u9 33 w8.heap.size (by first | exact Nat.le_refl _ | omega) PL (src_box XB (by simp [Value.oneCell'])) (by omega)
                        refine step_append_eq rfl _ _ 33 rfl _ _ (by simp [Act.eval]) (by simp [Act.eval]) hrun ?_
                        have kwy : Below w8.heap.size w8 wy := ku9.trans (kkwy.mono (by first | exact Nat.le_refl _ | omega))
                        have hzwy : w8.heap.size ≤ wy.heap.size := kwy.size
                        have hywy : u9.heap.size ≤ wy.heap.size := kkwy.size
                        clear hrun
                        refine hK.out _ _ (fun _ => hS8.out wy kwy) ?_
                        clear hK KK
                        try simp only [Act.put]
                        have XV3 := XV.of (gwy.block _ XV.lt (row_ne PL XV (by decide)))
                        refine d_step 13 (by kernel_rfl) rfl (fun KK hK => ?_)
                        obtain ⟨swz, wz, hrun, Pwz, gwz, kkwz⟩ := run_append_cells wy 33 w8.heap.size (by first | exact Nat.le_refl _ | omega) Pwy (HS8.out _ kwy) (by omega)
                        refine step_append_eq rfl _ _ 33 rfl _ _ (by simp [Act.eval]) (by simp [Act.eval]) hrun ?_
                        have kwz : Below w8.heap.size w8 wz := kwy.trans (kkwz.mono (by first | exact Nat.le_refl _ | omega))
                        have hzwz : w8.heap.size ≤ wz.heap.size := kwz.size
                        have hywz : wy.heap.size ≤ wz.heap.size := kkwz.size
                        clear hrun
                        refine hK.out _ _ (fun _ => hS8.out wz kwz) ?_
                        clear hK KK
                        try simp only [Act.put]
                        have XV4 := XV3.of (gwz.block _ XV3.lt (row_ne Pwy XV3 (by decide)))
                        have HP9 : Hid (∃ c9, PartC Cod.cellR wz w.heap.size 57 swz (N + 1) (putC t x mm) c9) := Lib.hid (ins_fresh HP5.out HN.out hkN hbw5 hz8 (by omega) HE.out hLT hLD Hnd.out XV4 Hver.out z0 Pwz (below_after kwz k8) (by omega))
                        have bw9 : Below w.heap.size w wz := below_after (below_after kwz k8) Hb5
                        clear XV XV3 XV4 XB PL Pwy Pwz gwy gwz kkwy kkwz
                        refine d_step 14 (by kernel_rfl) rfl (fun KK hK => ?_)
                        go_simp
                        refine hK.out _ _ (fun h => by exact absurd h (by decide)) ?_
                        clear hK KK
                        refine d_done (by kernel_rfl) ?_ _
                        try simp only [Act.put, List.setIfInBounds_toArray, List.set_cons_zero, List.set_cons_succ]
                        obtain ⟨c9, hP9⟩ := HP9.out
                        have HP10 := Lib.hid hP9
                        clear hP9 HP9
                        go_wp2
                        go_roundw
                        case rel => exact ⟨ki + 1, _, putC t x mm, c9, N + 1, rfl, by go_num, by omega, Hf2, HlenN, HP10, bw9⟩
                        case measure => simp [intOf]; omega
                  · skip
                    go_simp
                    generalize hA : World.alloc _ _ = u10
                    have XV : Blk u10 w8.heap.size 77 #[.int .i64 t, .string V, .bool G] := by rw [← hA]; exact Blk.new _ _ _
                    have bu10 : Below w8.heap.size w8 u10 := by rw [← hA]; exact below_new _ _
                    have ku10 : Below w8.heap.size w8 u10 := below_after bu10 kw8
                    have hzu10 : w8.heap.size ≤ u10.heap.size := ku10.size
                    have hyu10 : w8.heap.size ≤ u10.heap.size := bu10.size
                    have hVB : w8.heap.size < u10.heap.size := XV.lt
                    clear hA
                    refine hK.out _ _ (fun _ => hS8.out u10 ku10) ?_
                    clear hK KK
                    try simp only [Act.put, List.setIfInBounds_toArray, List.set_cons_zero, List.set_cons_succ]
                    have hS := hS8.out _ ku10
                    refine d_takeY (v := ?_) 9 rfl (by kernel_rfl) (fun _ _ _ h => h) (Or.inl ⟨by rfl, ?_⟩) hS ?_
                    rotate_left
                    · intro wx _
                      first | (go_simp; done) | (go_simp; with_reducible rfl)
                    simp only [Act.put, List.setIfInBounds_toArray]
                    clear hS
                    refine d_two 0 10 (by kernel_rfl) rfl rfl (fun KK hK => ?_) (fun KK hK => ?_)
                    · skip
                      go_simp
                      generalize hA : World.alloc _ _ = u11
                      have PE : u11.ownsRow u10.heap.size 57 2 (.slice (some ⟨u10.heap.size, 0, none⟩) 0 0) 0 [] := by rw [← hA]; exact made0 rfl (Nat.le_refl _)
                      have bu11 : Below u10.heap.size u10 u11 := by rw [← hA]; exact below_new _ _
                      have ku11 : Below w8.heap.size w8 u11 := below_after bu11 ku10
                      have hzu11 : w8.heap.size ≤ u11.heap.size := ku11.size
                      have hyu11 : u10.heap.size ≤ u11.heap.size := bu11.size
                      have hEB : u10.heap.size < u11.heap.size := (PE.lt _ rfl).2
                      clear hA
                      refine hK.out _ _ (fun _ => hS8.out u11 ku11) ?_
                      clear hK KK
                      try simp only [Act.put, List.setIfInBounds_toArray, List.set_cons_zero, List.set_cons_succ]
                      replace XV := XV.below bu11
                      refine d_two 4 10 (by kernel_rfl) rfl rfl (fun KK hK => ?_) (fun KK hK => ?_)
                      · skip
                        obtain ⟨su12, u12, hrun, Pu12, gu12, kku12⟩ := run_append_cells u11 33 u10.heap.size (by first | exact Nat.le_refl _ | omega) PE (HT8.out _ ku11) (by omega)
                        refine step_append_eq rfl _ _ 33 rfl _ _ (by simp [Act.eval]) (by simp [Act.eval]) hrun ?_
                        have ku12 : Below w8.heap.size w8 u12 := ku11.trans (kku12.mono (by first | exact Nat.le_refl _ | omega))
                        have hzu12 : w8.heap.size ≤ u12.heap.size := ku12.size
                        have hyu12 : u11.heap.size ≤ u12.heap.size := kku12.size
                        clear hrun
                        refine hK.out _ _ (fun _ => hS8.out u12 ku12) ?_
                        clear hK KK
                        try simp only [Act.put, List.setIfInBounds_toArray]
                        have gEu12 : u11.grownBy u12 (some u10.heap.size) := gu12
                        have PL := Pu12
                        clear Pu12 PE
                        replace XV := XV.grown gEu12 (by omega)
                        refine d_step 10 (by kernel_rfl) rfl (fun KK hK => ?_)
                        go_simp
                        generalize hA : World.alloc _ _ = u13
                        have XB : Blk u13 u12.heap.size 57 #[.string K, .slice (some ⟨w8.heap.size, 0, none⟩) 1 1] := by rw [← hA]; exact Blk.new _ _ _
                        have bu13 : Below u12.heap.size u12 u13 := by rw [← hA]; exact below_new _ _
                        have ku13 : Below w8.heap.size w8 u13 := below_after bu13 ku12
                        have hzu13 : w8.heap.size ≤ u13.heap.size := ku13.size
                        have hyu13 : u12.heap.size ≤ u13.heap.size := bu13.size
                        have hBB : u12.heap.size < u13.heap.size := XB.lt
                        clear hA
                        refine hK.out _ _ (fun _ => hS8.out u13 ku13) ?_
                        clear hK KK
                        try simp only [Act.put, List.setIfInBounds_toArray, List.set_cons_zero, List.set_cons_succ]
                        replace PL := own_below PL bu13
                        replace XV := XV.below bu13
                        refine d_step 11 (by kernel_rfl) rfl (fun KK hK => ?_)
                        obtain ⟨swy, wy, hrun, Pwy, gwy, kkwy⟩ := run_append_cells u13 33 u10.heap.size (by first | exact Nat.le_refl _ | omega) PL (src_box XB (by simp [Value.oneCell'])) (by omega)
                        refine step_append_eq rfl _ _ 33 rfl _ _ (by simp [Act.eval]) (by simp [Act.eval]) hrun ?_
                        have kwy : Below w8.heap.size w8 wy := ku13.trans (kkwy.mono (by first | exact Nat.le_refl _ | omega))
                        have hzwy : w8.heap.size ≤ wy.heap.size := kwy.size
                        have hywy : u13.heap.size ≤ wy.heap.size := kkwy.size
                        clear hrun
                        refine hK.out _ _ (fun _ => hS8.out wy kwy) ?_
                        clear hK KK
                        try simp only [Act.put, List.setIfInBounds_toArray]
                        have XV3 := XV.of (gwy.block _ XV.lt (row_ne PL XV (by decide)))
                        refine d_step 13 (by kernel_rfl) rfl (fun KK hK => ?_)
                        obtain ⟨swz, wz, hrun, Pwz, gwz, kkwz⟩ := run_append_cells wy 33 u10.heap.size (by first | exact Nat.le_refl _ | omega) Pwy (HS8.out _ kwy) (by omega)
                        refine step_append_eq rfl _ _ 33 rfl _ _ (by simp [Act.eval]) (by simp [Act.eval]) hrun ?_
                        have kwz : Below w8.heap.size w8 wz := kwy.trans (kkwz.mono (by first | exact Nat.le_refl _ | omega))
                        have hzwz : w8.heap.size ≤ wz.heap.size := kwz.size
                        have hywz : wy.heap.size ≤ wz.heap.size := kkwz.size
                        clear hrun
                        refine hK.out _ _ (fun _ => hS8.out wz kwz) ?_
                        clear hK KK
                        try simp only [Act.put]
                        have XV4 := XV3.of (gwz.block _ XV3.lt (row_ne Pwy XV3 (by decide)))
                        have HP9 : Hid (∃ c9, PartC Cod.cellR wz w.heap.size 57 swz (N + 1) (putC t x mm) c9) := Lib.hid (ins_fresh HP5.out HN.out hkN hbw5 hz8 (by omega) HE.out hLT hLD Hnd.out XV4 Hver.out z0 Pwz (below_after kwz k8) (by omega))
                        have bw9 : Below w.heap.size w wz := below_after (below_after kwz k8) Hb5
                        clear XV XV3 XV4 XB PL Pwy Pwz gwy gwz kkwy kkwz
                        refine d_step 14 (by kernel_rfl) rfl (fun KK hK => ?_)
                        go_simp
                        refine hK.out _ _ (fun h => by exact absurd h (by decide)) ?_
                        clear hK KK
                        refine d_done (by kernel_rfl) ?_ _
                        try simp only [Act.put, List.setIfInBounds_toArray, List.set_cons_zero, List.set_cons_succ]
                        obtain ⟨c9, hP9⟩ := HP9.out
                        have HP10 := Lib.hid hP9
                        clear hP9 HP9
                        go_wp2
                        go_roundw
                        case rel => exact ⟨ki + 1, _, putC t x mm, c9, N + 1, rfl, by go_num, by omega, Hf2, HlenN, HP10, bw9⟩
                        case measure => simp [intOf]; omega
                      · skip
                        go_simp
                        generalize hA : World.alloc _ _ = u14
                        have XB : Blk u14 u11.heap.size 57 #[.string K, .slice (some ⟨w8.heap.size, 0, none⟩) 1 1] := by rw [← hA]; exact Blk.new _ _ _
                        have bu14 : Below u11.heap.size u11 u14 := by rw [← hA]; exact below_new _ _
                        have ku14 : Below w8.heap.size w8 u14 := below_after bu14 ku11
                        have hzu14 : w8.heap.size ≤ u14.heap.size := ku14.size
                        have hyu14 : u11.heap.size ≤ u14.heap.size := bu14.size
                        have hBB : u11.heap.size < u14.heap.size := XB.lt
                        clear hA
                        refine hK.out _ _ (fun _ => hS8.out u14 ku14) ?_
                        clear hK KK
                        try simp only [Act.put, List.setIfInBounds_toArray, List.set_cons_zero, List.set_cons_succ]
                        replace PE := own_below PE bu14
                        replace XV := XV.below bu14
                        refine d_step 4 (by kernel_rfl) rfl (fun KK hK => ?_)
                        obtain ⟨su15, u15, hrun, Pu15, gu15, kku15⟩ := run_append_cells u14 33 u10.heap.size (by first | exact Nat.le_refl _ | omega) PE (HT8.out _ ku14) (by omega)
                        refine step_append_eq rfl _ _ 33 rfl _ _ (by simp [Act.eval]) (by simp [Act.eval]) hrun ?_
                        have ku15 : Below w8.heap.size w8 u15 := ku14.trans (kku15.mono (by first | exact Nat.le_refl _ | omega))
                        have hzu15 : w8.heap.size ≤ u15.heap.size := ku15.size
                        have hyu15 : u14.heap.size ≤ u15.heap.size := kku15.size
                        clear hrun
                        refine hK.out _ _ (fun _ => hS8.out u15 ku15) ?_
                        clear hK KK
                        try simp only [Act.put, List.setIfInBounds_toArray]
                        have gEu15 : u14.grownBy u15 (some u10.heap.size) := gu15
                        have PL := Pu15
                        clear Pu15 PE
                        replace XV := XV.grown gEu15 (by omega)
                        replace XB := XB.grown gEu15 (by omega)
                        refine d_step 11 (by kernel_rfl) rfl (fun KK hK => ?_)
                        obtain ⟨swy, wy, hrun, Pwy, gwy, kkwy⟩ := run_append_cells u15 33 u10.heap.size (by first | exact Nat.le_refl _ | omega) PL (src_box XB (by simp [Value.oneCell'])) (by omega)
                        refine step_append_eq rfl _ _ 33 rfl _ _ (by simp [Act.eval]) (by simp [Act.eval]) hrun ?_
                        have kwy : Below w8.heap.size w8 wy := ku15.trans (kkwy.mono (by first | exact Nat.le_refl _ | omega))
                        have hzwy : w8.heap.size ≤ wy.heap.size := kwy.size
                        have hywy : u15.heap.size ≤ wy.heap.size := kkwy.size
                        clear hrun
                        refine hK.out _ _ (fun _ => hS8.out wy kwy) ?_
                        clear hK KK
                        try simp only [Act.put]
                        have XV3 := XV.of (gwy.block _ XV.lt (row_ne PL XV (by decide)))
                        refine d_step 13 (by kernel_rfl) rfl (fun KK hK => ?_)
                        obtain ⟨swz, wz, hrun, Pwz, gwz, kkwz⟩ := run_append_cells wy 33 u10.heap.size (by first | exact Nat.le_refl _ | omega) Pwy (HS8.out _ kwy) (by omega)
                        refine step_append_eq rfl _ _ 33 rfl _ _ (by simp [Act.eval]) (by simp [Act.eval]) hrun ?_
                        have kwz : Below w8.heap.size w8 wz := kwy.trans (kkwz.mono (by first | exact Nat.le_refl _ | omega))
                        have hzwz : w8.heap.size ≤ wz.heap.size := kwz.size
                        have hywz : wy.heap.size ≤ wz.heap.size := kkwz.size
                        clear hrun
                        refine hK.out _ _ (fun _ => hS8.out wz kwz) ?_
                        clear hK KK
                        try simp only [Act.put]
                        have XV4 := XV3.of (gwz.block _ XV3.lt (row_ne Pwy XV3 (by decide)))
                        have HP9 : Hid (∃ c9, PartC Cod.cellR wz w.heap.size 57 swz (N + 1) (putC t x mm) c9) := Lib.hid (ins_fresh HP5.out HN.out hkN hbw5 hz8 (by omega) HE.out hLT hLD Hnd.out XV4 Hver.out z0 Pwz (below_after kwz k8) (by omega))
                        have bw9 : Below w.heap.size w wz := below_after (below_after kwz k8) Hb5
                        clear XV XV3 XV4 XB PL Pwy Pwz gwy gwz kkwy kkwz
                        refine d_step 14 (by kernel_rfl) rfl (fun KK hK => ?_)
                        go_simp
                        refine hK.out _ _ (fun h => by exact absurd h (by decide)) ?_
                        clear hK KK
                        refine d_done (by kernel_rfl) ?_ _
                        try simp only [Act.put, List.setIfInBounds_toArray, List.set_cons_zero, List.set_cons_succ]
                        obtain ⟨c9, hP9⟩ := HP9.out
                        have HP10 := Lib.hid hP9
                        clear hP9 HP9
                        go_wp2
                        go_roundw
                        case rel => exact ⟨ki + 1, _, putC t x mm, c9, N + 1, rfl, by go_num, by omega, Hf2, HlenN, HP10, bw9⟩
                        case measure => simp [intOf]; omega
                    · skip
                      go_simp
                      generalize hA : World.alloc _ _ = u16
                      have XB : Blk u16 u10.heap.size 57 #[.string K, .slice (some ⟨w8.heap.size, 0, none⟩) 1 1] := by rw [← hA]; exact Blk.new _ _ _
                      have bu16 : Below u10.heap.size u10 u16 := by rw [← hA]; exact below_new _ _
                      have ku16 : Below w8.heap.size w8 u16 := below_after bu16 ku10
                      have hzu16 : w8.heap.size ≤ u16.heap.size := ku16.size
                      have hyu16 : u10.heap.size ≤ u16.heap.size := bu16.size
                      have hBB : u10.heap.size < u16.heap.size := XB.lt
                      clear hA
                      refine hK.out _ _ (fun _ => hS8.out u16 ku16) ?_
                      clear hK KK
                      try simp only [Act.put, List.setIfInBounds_toArray, List.set_cons_zero, List.set_cons_succ]
                      replace XV := XV.below bu16
                      refine d_step 0 (by kernel_rfl) rfl (fun KK hK => ?_)
                      go_simp
                      generalize hA : World.alloc _ _ = u17
                      have PE : u17.ownsRow u16.heap.size 57 2 (.slice (some ⟨u16.heap.size, 0, none⟩) 0 0) 0 [] := by rw [← hA]; exact made0 rfl (Nat.le_refl _)
                      have bu17 : Below u16.heap.size u16 u17 := by rw [← hA]; exact below_new _ _
                      have ku17 : Below w8.heap.size w8 u17 := below_after bu17 ku16
                      have hzu17 : w8.heap.size ≤ u17.heap.size := ku17.size
                      have hyu17 : u16.heap.size ≤ u17.heap.size := bu17.size
                      have hEB : u16.heap.size < u17.heap.size := (PE.lt _ rfl).2
                      clear hA
                      refine hK.out _ _ (fun _ => hS8.out u17 ku17) ?_
                      clear hK KK
                      try simp only [Act.put, List.setIfInBounds_toArray, List.set_cons_zero, List.set_cons_succ]
                      replace XV := XV.below bu17
                      replace XB := XB.below bu17
                      refine d_step 4 (by kernel_rfl) rfl (fun KK hK => ?_)
                      obtain ⟨su18, u18, hrun, Pu18, gu18, kku18⟩ := run_append_cells u17 33 u16.heap.size (by first | exact Nat.le_refl _ | omega) PE (HT8.out _ ku17) (by omega)
                      refine step_append_eq rfl _ _ 33 rfl _ _ (by simp [Act.eval]) (by simp [Act.eval]) hrun ?_
                      have ku18 : Below w8.heap.size w8 u18 := ku17.trans (kku18.mono (by first | exact Nat.le_refl _ | omega))
                      have hzu18 : w8.heap.size ≤ u18.heap.size := ku18.size
                      have hyu18 : u17.heap.size ≤ u18.heap.size := kku18.size
                      clear hrun
                      refine hK.out _ _ (fun _ => hS8.out u18 ku18) ?_
                      clear hK KK
                      try simp only [Act.put, List.setIfInBounds_toArray]
                      have gEu18 : u17.grownBy u18 (some u16.heap.size) := gu18
                      have PL := Pu18
                      clear Pu18 PE
                      replace XV := XV.grown gEu18 (by omega)
                      replace XB := XB.grown gEu18 (by omega)
                      refine d_step 11 (by kernel_rfl) rfl (fun KK hK => ?_)
                      obtain ⟨swy, wy, hrun, Pwy, gwy, kkwy⟩ := run_append_cells u18 33 u16.heap.size (by first | exact Nat.le_refl _ | omega) PL (src_box XB (by simp [Value.oneCell'])) (by omega)
                      refine step_append_eq rfl _ _ 33 rfl _ _ (by simp [Act.eval]) (by simp [Act.eval]) hrun ?_
                      have kwy : Below w8.heap.size w8 wy := ku18.trans (kkwy.mono (by first | exact Nat.le_refl _ | omega))
                      have hzwy : w8.heap.size ≤ wy.heap.size := kwy.size
                      have hywy : u18.heap.size ≤ wy.heap.size := kkwy.size
                      clear hrun
                      refine hK.out _ _ (fun _ => hS8.out wy kwy) ?_
                      clear hK KK
                      try simp only [Act.put]
                      have XV3 := XV.of (gwy.block _ XV.lt (row_ne PL XV (by decide)))
                      refine d_step 13 (by kernel_rfl) rfl (fun KK hK => ?_)
                      obtain ⟨swz, wz, hrun, Pwz, gwz, kkwz⟩ := run_append_cells wy 33 u16.heap.size (by first | exact Nat.le_refl _ | omega) Pwy (HS8.out _ kwy) (by omega)
                      refine step_append_eq rfl _ _ 33 rfl _ _ (by simp [Act.eval]) (by simp [Act.eval]) hrun ?_
                      have kwz : Below w8.heap.size w8 wz := kwy.trans (kkwz.mono (by first | exact Nat.le_refl _ | omega))
                      have hzwz : w8.heap.size ≤ wz.heap.size := kwz.size
                      have hywz : wy.heap.size ≤ wz.heap.size := kkwz.size
                      clear hrun
                      refine hK.out _ _ (fun _ => hS8.out wz kwz) ?_
                      clear hK KK
                      try simp only [Act.put]
                      have XV4 := XV3.of (gwz.block _ XV3.lt (row_ne Pwy XV3 (by decide)))
                      have HP9 : Hid (∃ c9, PartC Cod.cellR wz w.heap.size 57 swz (N + 1) (putC t x mm) c9) := Lib.hid (ins_fresh HP5.out HN.out hkN hbw5 hz8 (by omega) HE.out hLT hLD Hnd.out XV4 Hver.out z0 Pwz (below_after kwz k8) (by omega))
                      have bw9 : Below w.heap.size w wz := below_after (below_after kwz k8) Hb5
                      clear XV XV3 XV4 XB PL Pwy Pwz gwy gwz kkwy kkwz
                      refine d_step 14 (by kernel_rfl) rfl (fun KK hK => ?_)
                      go_simp
                      refine hK.out _ _ (fun h => by exact absurd h (by decide)) ?_
                      clear hK KK
                      refine d_done (by kernel_rfl) ?_ _
                      try simp only [Act.put, List.setIfInBounds_toArray, List.set_cons_zero, List.set_cons_succ]
                      obtain ⟨c9, hP9⟩ := HP9.out
                      have HP10 := Lib.hid hP9
                      clear hP9 HP9
                      go_wp2
                      go_roundw
                      case rel => exact ⟨ki + 1, _, putC t x mm, c9, N + 1, rfl, by go_num, by omega, Hf2, HlenN, HP10, bw9⟩
                      case measure => simp [intOf]; omega
            · have Hq := Lib.hid (Hnx2.out rfl)
              obtain ⟨h1, h2⟩ : Op.bytesLess y.toList K.toList = false ∧ (y.toList == K.toList) = false := Bool.or_eq_false_iff.1 hle
              clear HP1 HP2 Hnx2 hle Hall hVs Hes hml Hnone Hlater Hnx Hstop Hlast
              go_wp2_with fail
              go_quiet (fail)
              go_wp2
              go_roundw
              case rel => exact ⟨m, by go_num, by omega, Hq, Lib.hid (HX.out.drewN _), Lib.hid (HXV.out.drewN _), by (repeat (first | (with_reducible exact Below.refl _ _) | (with_reducible refine below_setCell ?_ (by first | (simp; done) | (simp; omega) | omega)) | (with_reducible refine below_alloc _ ?_) | (with_reducible refine below_drewN ?_ _) | (with_reducible assumption) | (with_reducible refine below_after (by assumption) ?_)))⟩
              case measure => simp [intOf]; have := Hm.out; omega
    · have hltI : (n : Int) ≤ (ki : Int) := by omega
      obtain rfl : ki = n := by omega
      have hfold : foldC t l ws = some mm := by have := Hf.out; rwa [List.take_of_length_le (by have := Hn.out; omega)] at this
      have HQ : Hid (outQ t l ws = goodCB mm) := Lib.hid (by unfold outQ; rw [hfold])
      have HRr : Hid (outR t l ws = mm) := Lib.hid (by unfold outR; rw [hfold]; rfl)
      have Hgc := Lib.hid (l3Good_any va mm (by omega) wr hRd)
      have HO := Lib.hid (own_weakC (Hp.out.own HN.out))
      clear hfold hRd Hp Hwk Hco Hf
      go_wp2_with fail
      refine Hgc.out.mono ?_
      rintro e w4 ⟨rfl, k4⟩
      have HF : Hid (PutPostC t l ws w (.returned (.tuple #[va, .bool (goodCB mm)])) w4) := Lib.hid ⟨va, mm, by rw [HQ.out], HO.out.below k4, fun _ => HRr.out.symm, below_after k4 hb⟩
      go_wp2
      go_ret2
      exact HF.out

end Go.Proofs.Ytkcidneefdaaiaa
