/- spec.l3Own: cells of the call's own, the room of their versions known. -/
import Derived.Test.YtkcidneefdaaiaaVersAt
import Derived.Test.YtkcidneefdaaiaaAppFlat
import Derived.Test.YtkcidneefdaaiaaHeld
import Derived.Test.YtkcidneefdaaiaaCopyl
namespace Go.Proofs.Ytkcidneefdaaiaa
open Go.RowKit

theorem Try_infoO_cell : (Try.prog.info? 57).map (fun i => (i.zero, i.size, i.bytes)) = some (some (.agg #[.string ⟨#[]⟩, .slice none 0 0]), 2, 40) := by kernel_rfl
theorem Try_infoO_ver : (Try.prog.info? 77).map (fun i => (i.zero, i.size, i.bytes)) = some (some (.agg #[.int .i64 0, .string ⟨#[]⟩, .bool false]), 3, 32) := by kernel_rfl

/-- A cell out of its key and a row of versions. -/
theorem mk_cellR {w : World} {K : ByteArray} {V : List VerD} {u : Value} {f : List Nat} (hK : K.size ≤ maxLen) (h : Cod.rdR Cod.ver w u V f) : Cod.cellR.rd w (lst [.string K, u]) ⟨K, V⟩ f :=
  ⟨[], f, rfl, ⟨rfl, hK, rfl⟩, ⟨u, rfl, h⟩⟩
theorem one_cellR {w : World} {u : Value} {V : List VerD} {f : List Nat} (h : Cod.rdR Cod.ver w u V f) : u.oneCell' = true := by
  rcases h with ⟨rfl, _⟩ | ⟨b, off, cap, fs, cur, e, rfl, _⟩
  · simp [Value.oneCell']
  · simp [Value.oneCell']

set_option maxRecDepth 100000 in
set_option maxHeartbeats 6400000 in
/-- spec.l3Own -/
theorem l3OwnC_any (v : Value) (l : List CellD) (hl : costCellS l ≤ 1048576) (w : World) (h : Rd Cod.cell w v l) :
    Calls Try.prog 55 #[v] w fun e w' => ∃ v' cells, e = .returned v' ∧ PartC Cod.cellR w' w.heap.size 57 v' l.length l cells ∧ Below w.heap.size w w' := by
  obtain ⟨i0, hi, hz0, hz1, hz2⟩ := info_parts Try_infoO_cell
  obtain ⟨j0, ji, jz0, jz1, jz2⟩ := info_parts Try_infoO_ver
  obtain ⟨p, c, rfl, _, _, r⟩ := h.form
  have R := Lib.hid r
  obtain ⟨n, hn⟩ : ∃ n, l.length = n := ⟨_, rfl⟩
  have Hn := Lib.hid hn
  have hnb : n ≤ 1048576 := by unfold costCellS at hl; omega
  have hnI : (n : Int) ≤ 1048576 := by omega
  have Hlen : Hid (∀ k (h : k < l.length), l[k].Vers.length ≤ 1048576) := Lib.hid fun k hk => by
    have q1 := sumC_get costCell l k hk
    have q2 : costCell l[k] = l[k].Key.size + costVerS l[k].Vers := rfl
    unfold costCellS at hl
    unfold costVerS at q2
    omega
  rw [hn]
  clear h r hn hl
  go_enter Try.func55, Try.ntmps55
  go_wp2
  go_loopw [3, 8] (fun a i wr => ∃ (k : Nat) (va : Value), va = a ∧ i = .int .i64 (k : Int) ∧ k ≤ n ∧ Hid (Part Cod.cellR wr w.heap.size 57 va k (l.take k)) ∧ Below w.heap.size w wr) (fun _ i _ => n - (intOf i).toNat)
  case atStart => exact ⟨0, _, rfl, rfl, Nat.zero_le _, Lib.hid ⟨[], part_start (World.ownsRow_nil _ _ _ _)⟩, Below.refl _ _⟩
  case round =>
    obtain ⟨k, va, rfl, rfl, hk, Hp, hb⟩ := hrel
    have hbs := hb.size
    by_cases hlt : k < n
    · have hltI : (k : Int) < (n : Int) := by omega
      have hkl : k < l.length := by have := Hn.out; omega
      obtain ⟨g, o, rfl, hg, hc⟩ := R.out (by have := Hn.out; omega)
      have at0 := (hc k hkl).below hg hb
      have Ht : Hid (l.take (k + 1) = l.take k ++ [l[k]]) := Lib.hid (List.take_succ_eq_append_getElem hkl)
      have HV := Lib.hid (Hlen.out k hkl)
      have Hk2 : Hid ((l.take k).length = k) := Lib.hid (by rw [List.length_take]; omega)
      obtain ⟨x, es⟩ : ∃ x, l[k] = x := ⟨_, rfl⟩
      rw [es] at at0 Ht HV
      clear hc es hkl
      obtain ⟨d0, ⟨u, d1, ru⟩, z0⟩ := at_cell at0
      have RU := Lib.hid ru
      obtain ⟨pu, cu, hu, _⟩ := ru.form
      rw [show o + k * Cod.cell.size = o + k * 2 from rfl] at *
      obtain ⟨K, hK⟩ : ∃ K, x.Key = K := ⟨_, rfl⟩
      obtain ⟨V, hV⟩ : ∃ V, x.Vers = V := ⟨_, rfl⟩
      have Hx : Hid (x = ⟨K, V⟩) := Lib.hid (by rw [← hK, ← hV])
      rw [hK] at d0 z0
      rw [hV] at RU HV hu
      subst hu
      clear at0 ru hK hV
      obtain ⟨cs, Pc⟩ := Hp.out
      have Pc := Lib.hid Pc
      have Hroom : Hid ((k + 1) * 40 ≤ room) := Lib.hid (by unfold room; omega)
      have Hroom2 : Hid ((0 + V.length) * 32 ≤ room) := Lib.hid (by have := HV.out; unfold room; omega)
      clear Hp
      go_upto_region 5 with fail
      generalize hW1 : World.alloc _ _ = W1
      have B1 : Blk W1 wr.heap.size 57 #[.string K, .slice pu V.length cu] := by rw [← hW1]; exact Blk.new _ _ _
      have m1 : Below wr.heap.size wr W1 := by rw [← hW1]; exact below_new _ _
      clear hW1 d0 d1
      refine wp_region_d 9 (fun w' => w'.cell? ⟨wr.heap.size, 0, none⟩ = some (.string K) ∧ w'.cell? ⟨wr.heap.size, 1, none⟩ = some (.slice pu V.length cu)) (by kernel_rfl) ?_
      obtain ⟨W2, hW2⟩ : ∃ W2, W1.drew = W2 := ⟨_, rfl⟩
      have m2 : Below wr.heap.size wr W2 := by rw [← hW2]; exact m1.drew
      rw [hW2]
      have B2 : Blk W2 wr.heap.size 57 #[.string K, .slice pu V.length cu] := by rw [← hW2]; exact B1.drew
      have HS : Hid (∀ W, Below W2.heap.size W2 W → W.cell? ⟨wr.heap.size, 0, none⟩ = some (.string K) ∧ W.cell? ⟨wr.heap.size, 1, none⟩ = some (.slice pu V.length cu)) := Lib.hid fun W b => ⟨(B2.below b).cell 0 rfl, (B2.below b).cell 1 rfl⟩
      have hS := HS.out W2 (Below.refl _ _)
      clear hW2 B1 B2 m1
      refine d_take (f := 30) (v := ?_) 0 rfl (by kernel_rfl) (fun _ _ _ h => h) (Or.inl ⟨by rfl, ?_⟩) hS ?_
      rotate_left
      · intro wx hx
        obtain ⟨x0, x1⟩ := hx
        first | (go_simp; done) | (go_simp; with_reducible rfl)
      simp only [Act.put, List.setIfInBounds_toArray, List.set_cons_zero, List.set_cons_succ]
      refine d_take (f := 30) (v := ?_) 1 rfl (by kernel_rfl) (fun _ _ _ h => h) (Or.inl ⟨by rfl, ?_⟩) hS ?_
      rotate_left
      · intro wx hx
        obtain ⟨x0, x1⟩ := hx
        first | (go_simp; done) | (go_simp; with_reducible rfl)
      simp only [Act.put, List.setIfInBounds_toArray, List.set_cons_zero, List.set_cons_succ]
      refine d_take (f := 30) (v := ?_) 2 rfl (by kernel_rfl) (fun _ _ _ h => h) (Or.inl ⟨by rfl, ?_⟩) hS ?_
      rotate_left
      · intro wx hx
        obtain ⟨x0, x1⟩ := hx
        first | (go_simp; done) | (go_simp; with_reducible rfl)
      simp only [Act.put, List.setIfInBounds_toArray, List.set_cons_zero, List.set_cons_succ]
      refine d_take (f := 30) (v := ?_) 4 rfl (by kernel_rfl) (fun _ _ _ h => h) (Or.inl ⟨by rfl, ?_⟩) hS ?_
      rotate_left
      · intro wx hx
        obtain ⟨x0, x1⟩ := hx
        first | (go_simp; done) | (go_simp; with_reducible rfl)
      simp only [Act.put, List.setIfInBounds_toArray, List.set_cons_zero, List.set_cons_succ]
      refine d_take (f := 30) (v := ?_) 5 rfl (by kernel_rfl) (fun _ _ _ h => h) (Or.inl ⟨by rfl, ?_⟩) hS ?_
      rotate_left
      · intro wx hx
        obtain ⟨x0, x1⟩ := hx
        first | (go_simp; done) | (go_simp; with_reducible rfl)
      simp only [Act.put, List.setIfInBounds_toArray, List.set_cons_zero, List.set_cons_succ]
      refine d_step 3 (by kernel_rfl) rfl (fun KK hK => ?_)
      go_simp
      generalize hA : World.alloc _ _ = W3
      have PE : PartC Cod.ver W3 W2.heap.size 77 (.slice (some ⟨W2.heap.size, 0, none⟩) 0 0) 0 [] [] := by rw [← hA]; exact part_start (made0 rfl (Nat.le_refl _))
      have b3 : Below W2.heap.size W2 W3 := by rw [← hA]; exact below_new _ _
      clear hA
      refine hK.out _ _ (fun _ => HS.out W3 b3) ?_
      clear hK KK
      try simp only [Act.put, List.setIfInBounds_toArray, List.set_cons_zero, List.set_cons_succ]
      refine d_step 6 (by kernel_rfl) rfl (fun KK hK => ?_)
      obtain ⟨p4, c4, W4, cells4, hrun, P4, g4, kk4⟩ := run_append_flat (P := Try.prog) flat_ver W3 55 55 W2.heap.size 77 j0 (.agg #[.int .i64 0, .string ⟨#[]⟩, .bool false]) 32 Try.underlying55 ji jz0 jz1 jz2 rfl (by decide) (by decide) _ 0 [] _ PE (by simp) (.slice pu V.length cu) V ((RU.out.below m2).below b3) Hroom2.out b3.size
      obtain ⟨s4, hs4⟩ : ∃ s, Value.slice p4 (0 + V.length) c4 = s := ⟨_, rfl⟩
      rw [hs4] at hrun P4
      clear hs4
      refine step_append_eq rfl _ _ 55 rfl _ _ (by simp [Act.eval, Act.put]) (by simp [Act.eval, Act.put]) hrun ?_
      have b4 : Below W2.heap.size W2 W4 := b3.trans kk4
      have hS4 := HS.out W4 b4
      have O4 : OwnR Cod.ver W4 W2.heap.size s4 V := by have := P4.ownR (by simp); simpa using this
      obtain ⟨p5, c5, rfl⟩ := O4.form
      clear hrun P4 PE g4 kk4 b3 hS
      refine hK.out _ _ (fun _ => hS4) ?_
      clear hK KK
      try simp only [Act.put, List.setIfInBounds_toArray, List.set_cons_zero, List.set_cons_succ]
      obtain ⟨f4, hR4, hM4⟩ := O4
      refine d_takeY (v := ?_) 7 rfl (by kernel_rfl) (fun _ _ _ h => h) (Or.inl ⟨by rfl, ?_⟩) hS4 ?_
      rotate_left
      · intro wx _
        first | (go_simp; done) | (go_simp; with_reducible rfl)
      simp only [Act.put, List.setIfInBounds_toArray, List.set_cons_zero, List.set_cons_succ]
      refine d_step 8 (by kernel_rfl) rfl (fun KK hK => ?_)
      go_simp
      refine hK.out _ _ (fun _ => HS.out _ (below_alloc _ b4)) ?_
      clear hK KK
      try simp only [Act.put, List.setIfInBounds_toArray, List.set_cons_zero, List.set_cons_succ]
      have m4 : Below wr.heap.size wr W4 := below_after b4 m2
      have hz4 : wr.heap.size ≤ W2.heap.size := m2.size
      refine d_step 9 (by kernel_rfl) rfl (fun KK hK => ?_)
      refine step_append_part (c := Cod.cellR) W4 rfl _ _ 33 rfl w.heap.size 57 57 i0 (.agg #[.string ⟨#[]⟩, .slice none 0 0]) 40 Try.underlying33 hi hz0 hz1 hz2 rfl (by decide) (by decide) wr va k (l.take k) cs (by simp [Act.eval, Act.put]) Pc.out Hk2.out m4 ⟨K, V⟩ f4 [.string K, .slice p5 V.length c5] rfl (mk_cellR z0 hR4) (hM4.mono hz4) W4.heap.size rfl (by simp [Act.eval, Act.put]) (fun q hq => by
        simp only [List.mem_cons, List.mem_nil_iff, or_false] at hq
        rcases hq with rfl | rfl
        · simp [Value.oneCell']
        · exact one_cellR hR4) Hroom.out hb.size ?_
      intro g' cap' w9 hp9 hb9
      have Hp9 : Hid (Part Cod.cellR w9 w.heap.size 57 (.slice (some ⟨g', 0, none⟩) (k + 1) cap') (k + 1) (l.take (k + 1))) := Lib.hid (by rw [Ht.out, Hx.out]; exact hp9)
      have hb10 : Below w.heap.size w w9 := (below_after m4 hb).trans hb9
      refine hK.out _ _ (fun h => by exact absurd h (by decide)) ?_
      clear hK KK hp9 hb9 Pc hS4 hR4 hM4
      refine d_step 10 (by kernel_rfl) rfl (fun KK hK => ?_)
      go_simp
      refine hK.out _ _ (fun h => by exact absurd h (by decide)) ?_
      clear hK KK
      refine d_done (by kernel_rfl) ?_ _
      try simp only [Act.put, List.setIfInBounds_toArray, List.set_cons_zero, List.set_cons_succ]
      go_wp2
      go_roundw
      case rel => exact ⟨k + 1, _, rfl, by go_num, by omega, Hp9, hb10⟩
      case measure => simp [intOf]; omega
    · have hltI : (n : Int) ≤ (k : Int) := by omega
      obtain rfl : k = n := by omega
      have HP : Hid (∃ cells, PartC Cod.cellR wr w.heap.size 57 va k l cells) := Lib.hid (by have := Hp.out; rwa [List.take_of_length_le (by have := Hn.out; omega)] at this)
      clear Hp
      go_wp2
      go_ret
      obtain ⟨cells, h1⟩ := HP.out
      exact ⟨va, cells, rfl, by first | exact h1 | (rw [Hn.out]; exact h1), hb⟩

end Go.Proofs.Ytkcidneefdaaiaa
