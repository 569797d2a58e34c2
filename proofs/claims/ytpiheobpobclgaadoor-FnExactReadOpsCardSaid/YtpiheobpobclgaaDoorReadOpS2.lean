/- spec.ReadOps. -/
import Derived.Test.YtpiheobpobclgaaDoorReadOpS
import Derived.Test.YtpiheobpobclgaaDoorOpsT4
namespace Go.Proofs.YtpiheobpobclgaaDoor
open Go.RowKit

theorem getD_size {xs : List ByteArray} {B : Nat} (h : ∀ x ∈ xs, x.size ≤ B) (k : Nat) : (xs.getD k ⟨#[]⟩).size ≤ B := by
  rw [List.getD_eq_getElem?_getD]
  cases hk : xs[k]? with
  | none => exact Nat.zero_le _
  | some x => exact h x (List.mem_of_getElem? hk)
theorem readI_in {low high : Int} (h0 : low ≤ 0) (h1 : 0 ≤ high) (l : List UInt8) : low ≤ (readI l low high).1 ∧ (readI l low high).1 ≤ high := by
  unfold readI
  split
  · split
    · rename_i h
      exact h.1
    · exact ⟨h0, h1⟩
  · exact ⟨h0, h1⟩
theorem kindS_in (u : ByteArray) : 0 ≤ kindS u ∧ kindS u ≤ 7 := by
  unfold kindS
  repeat (first | (split; decide) | decide)
theorem opSp_ok {xs : List ByteArray} (h : ∀ x ∈ xs, x.size ≤ 400) : (opSp xs).Key.size ≤ 400 ∧ (opSp xs).Val.size ≤ 400 ∧ (0 ≤ (opSp xs).Kind ∧ (opSp xs).Kind ≤ 7) ∧ (-999999 ≤ (opSp xs).By ∧ (opSp xs).By ≤ 999999) := by
  have e0 : (⟨#[]⟩ : ByteArray).size ≤ 400 := by decide
  refine ⟨?_, ?_, kindS_in _, ?_⟩
  · show (if _ then _ else _ : ByteArray).size ≤ 400
    split
    · exact getD_size h 1
    · exact e0
  · show (if _ then _ else _ : ByteArray).size ≤ 400
    split
    · exact getD_size h 2
    · exact e0
  · show -999999 ≤ (if _ then _ else _ : Int) ∧ (if _ then _ else _ : Int) ≤ 999999
    split
    · rw [readS_eq]
      exact readI_in (by decide) (by decide) _
    · decide
theorem tail_toList (p : ByteArray) : (p.extract 1 p.size).data.toList = p.data.toList.drop 1 := by
  have h2 : p.data.toList.length = p.size := by rw [Array.length_toList]; rfl
  rw [ByteArray.data_extract, Array.toList_extract, List.extract_eq_take_drop, List.take_of_length_le (by rw [List.length_drop]; omega)]
theorem costOp_snoc (l : List OpD) (x : OpD) : costOpS (l ++ [x]) = costOpS l + (1 + costOp x) := by
  simp [costOpS, sumC]
  omega

/-- What ReadOps returns at any text. -/
noncomputable def opsQ (s : ByteArray) : List OpD × Bool := if s.size ≤ 400 then opsR s else ([], false)
def ReadOpsPost (s : ByteArray) (w : World) (e : Ending) (w' : World) : Prop := ∃ v', e = .returned (.tuple #[v', .bool (opsQ s).2]) ∧ Own Cod.op w' w.heap.size v' (opsQ s).1 ∧ Below w.heap.size w w'
theorem own_nilO (w : World) (base : Nat) : Own Cod.op w base (.slice none 0 0) [] := ⟨[], ⟨none, 0, rfl, Nat.le_refl _, Nat.zero_le _, fun _ => rfl, Or.inl ⟨rfl, rfl⟩⟩, Mine.nil _ _⟩
theorem ro_no {s : ByteArray} {w w' : World} (h : opsQ s = ([], false)) (b : Below w.heap.size w w') : ReadOpsPost s w (.returned (.tuple #[.slice none 0 0, .bool false])) w' := by
  refine ⟨.slice none 0 0, ?_, ?_, b⟩
  · rw [h]
  · rw [h]; exact own_nilO _ _
theorem ro_yes {s : ByteArray} {w w' : World} {v' : Value} {out : List OpD} (h : opsQ s = (out, true)) (o : Own Cod.op w' w.heap.size v' out) (b : Below w.heap.size w w') : ReadOpsPost s w (.returned (.tuple #[v', .bool true])) w' := by
  refine ⟨v', ?_, ?_, b⟩
  · rw [h]
  · rw [h]; exact o
theorem opsQ_long {s : ByteArray} (h : ¬ s.size ≤ 400) : opsQ s = ([], false) := if_neg h
theorem opsQ_le {s : ByteArray} (h : s.size ≤ 400) {r : List OpD × Bool} (k : opsR s = r) : opsQ s = r := by unfold opsQ; rw [if_pos h, k]

theorem Tryd_infoR_op : (Tryd.prog.info? 53).map (fun i => (i.zero, i.size, i.bytes)) = some (some (.agg #[.int .i64 0, .string ⟨#[]⟩, .string ⟨#[]⟩, .int .i64 0]), 4, 48) := by kernel_rfl

set_option maxRecDepth 100000 in
set_option maxHeartbeats 6400000 in
/-- spec.ReadOps -/
theorem readOpsS_any (s : ByteArray) (hs : s.size ≤ 1048576) (w : World) : Calls Tryd.prog 19 #[.string s] w (ReadOpsPost s w) := by
  obtain ⟨i0, hi, hz0, hz1, hz2⟩ := info_parts Tryd_infoR_op
  have hsI : (s.size : Int) ≤ 1048576 := by omega
  by_cases hlen : s.size ≤ 400
  rotate_left
  · have HQ := Lib.hid (opsQ_long hlen)
    have hlI : (400 : Int) < (s.size : Int) := by omega
    clear hlen hs
    go_enter Tryd.func19, Tryd.ntmps19
    go_wp2
    go_ret2
    exact ro_no HQ.out (Below.refl _ _)
  have hlI : (s.size : Int) ≤ 400 := by omega
  have Hle := Lib.hid hlen
  have Hgood := Lib.hid (fun (v : Value) (l : List OpD) (hl : l.length ≤ 1048576) (W : World) (r : Rd Cod.op W v l) => l5Good_any v l hl W r)
  have Htext := Lib.hid (fun (v : Value) (l : List OpD) (hl : costOpS l ≤ 1048576) (hq : goodOB l = true) (W : World) (r : Rd Cod.op W v l) => l5OpsText_any v l hl hq W r)
  by_cases he : s = ⟨#[]⟩
  · subst he
    have HQ := Lib.hid (opsQ_le hlen opsR_empty)
    have hg0 : goodOB [] = true := rfl
    have ht0 : opsS [] = ⟨#[]⟩ := rfl
    have Hg := Lib.hid (fun W => Hgood.out (.slice none 0 0) [] (by simp) W ((own_nilO W 0).rd))
    have Ht := Lib.hid (fun W => Htext.out (.slice none 0 0) [] (by decide) hg0 W ((own_nilO W 0).rd))
    rw [hg0] at Hg
    rw [ht0] at Ht
    clear hlen hs hlI hsI hg0 ht0
    go_enter Tryd.func19, Tryd.ntmps19
    go_wp2_with fail
    refine (Hg.out _).mono ?_
    rintro e w1 ⟨rfl, k1⟩
    go_wp2_with fail
    refine (Ht.out _).mono ?_
    rintro e w2 ⟨rfl, k2⟩
    go_wp2
    go_ret2
    exact ro_yes HQ.out (own_nilO _ _) (below_after k2 k1)
  have Hne := Lib.hid he
  have hne1 : (s.toList == (⟨#[]⟩ : ByteArray).toList) = false := str_ne he
  have hne2 : s.toList.isEmpty = false := someOf fun h => he (nilOf h)
  have Hsp := Lib.hid (fun W => l1Split_any s 59 hlen W)
  rw [show (((59 : UInt8).toNat : Nat) : Int) = 59 from rfl] at Hsp
  have Hop := Lib.hid (fun (p : ByteArray) (h : p.size ≤ 400) (W : World) => l5ReadOp_any p h W)
  clear hlen hs he
  go_enter Tryd.func19, Tryd.ntmps19
  go_wp2_with fail
  refine (Hsp.out _).mono ?_
  rintro e w1 ⟨v1, ps, rfl, o1, hp, k1⟩
  obtain ⟨p1, c1, rfl, r1⟩ := o1.rd.strRow
  have Hp := Lib.hid hp
  have Hr1 := Lib.hid r1
  obtain ⟨n, hn⟩ : ∃ n, ps.length = n := ⟨_, rfl⟩
  have Hn := Lib.hid hn
  have hn401 : n ≤ 401 := by
    have h1 := spl_length 59 s.data.toList []
    have h3 := congrArg List.length hp
    rw [List.length_map] at h3
    have h2 : s.data.toList.length = s.size := by rw [Array.length_toList]; rfl
    have := Hle.out
    omega
  rw [hn]
  clear r1 hp o1 hn Hsp
  go_wp2
  go_loopw [4, 15] (fun a i wr => ∃ (k : Nat) (out : List OpD), i = .int .i64 (k : Int) ∧ k ≤ n ∧ out.length = k ∧ Hid (OpsInv s k out) ∧ Hid (costOpS out ≤ k * 801) ∧ Hid (Part Cod.op wr w1.heap.size 53 a out.length out) ∧ Below w1.heap.size w1 wr) (fun _ i _ => n - (intOf i).toNat)
  case atStart => exact ⟨0, [], rfl, Nat.zero_le _, rfl, Lib.hid (inv_start s), Lib.hid (by decide), Lib.hid ⟨[], part_start (World.ownsRow_nil _ _ _ _)⟩, Below.refl _ _⟩
  case round =>
    obtain ⟨k, out, rfl, hk, hol, Hinv, Hco, HP, hb⟩ := hrel
    obtain ⟨cells, Pc⟩ := HP.out
    obtain ⟨pa, ca, rfl⟩ := Pc.form
    rw [hol] at Pc ⊢
    have Pc := Lib.hid Pc
    clear HP
    have hbs := hb.size
    by_cases hlt : k < n
    · have hltI : (k : Int) < (n : Int) := by omega
      have hkl : k < ps.length := by have := Hn.out; omega
      obtain ⟨g, o, rfl, hg, hc⟩ := Hr1.out (by omega)
      have hcell : wr.cell? ⟨g, o + k, none⟩ = some (.string ps[k]) := (hb.cell (p := ⟨g, o + k, none⟩) hg).trans (hc k hkl)
      have Hstep := Lib.hid (fun (p : ByteArray) (xs : List ByteArray) h1 h2 => sp_step Hne.out Hp.out Hinv.out hkl (p := p) h1 (xs := xs) h2)
      have Hnone := Lib.hid (fun h1 h2 => sp_none Hne.out Hp.out hkl h1 h2)
      have hpsz : ps[k].size ≤ 400 := Nat.le_trans (spl_sizes Hp.out (List.getElem_mem hkl)) Hle.out
      have Hpsz := Lib.hid hpsz
      generalize ps[k] = p at *
      clear hc hkl
      have Hroom : Hid ((k + 1) * 48 ≤ room) := Lib.hid (by unfold room; omega)
      by_cases hk0 : k = 0
      · subst hk0
        rw [Nat.add_zero] at hcell
        have Hx := Lib.hid (fun W => Hop.out p Hpsz.out W)
        go_wp2_with fail
        refine (Hx.out _).mono ?_
        rintro e w3 ⟨xs, hx, rfl, k3⟩
        have Hst := Lib.hid (Hstep.out p xs (by simp) hx)
        obtain ⟨y1, y2, y3, y4⟩ := opSp_ok (fun x hx' => Nat.le_trans (spl_sizes hx hx') Hpsz.out)
        generalize opSp xs = y at *
        obtain ⟨yK, yKey, yVal, yBy⟩ := y
        dsimp only at y1 y2 y3 y4 ⊢
        have Hrd : Hid (Cod.op.rd w3 (lst [.int .i64 yK, .string yKey, .string yVal, .int .i64 yBy]) ⟨yK, yKey, yVal, yBy⟩ []) := Lib.hid (mk_op (x := ⟨yK, yKey, yVal, yBy⟩) rfl (by unfold I64; dsimp only; omega) rfl (by dsimp only; unfold maxLen; omega) rfl (by dsimp only; unfold maxLen; omega) rfl (by unfold I64; dsimp only; omega))
        have Hc2 : Hid (costOpS (out ++ [⟨yK, yKey, yVal, yBy⟩]) ≤ (0 + 1) * 801) := Lib.hid (by rw [costOp_snoc]; have := Hco.out; have : costOp ⟨yK, yKey, yVal, yBy⟩ = yKey.size + yVal.size := rfl; omega)
        have Pc3 : Hid (PartC Cod.op w3 w1.heap.size 53 (.slice pa 0 ca) 0 out cells) := Lib.hid (Pc.out.below k3)
        have hb3 : Below w1.heap.size w1 w3 := below_after k3 hb
        have hz3 : w1.heap.size ≤ w3.heap.size := hb3.size
        clear Hstep Hnone Hx hx y1 y2 y3 y4 Pc Hco k3
        go_wp2_with (at_builtin; go_must (refine wpList_append_part (c := Cod.op) w3 rfl _ _ 26 (by rfl) w1.heap.size 53 53 i0 (.agg #[.int .i64 0, .string ⟨#[]⟩, .string ⟨#[]⟩, .int .i64 0]) 48 Tryd.underlying26 hi hz0 hz1 hz2 rfl (by decide) (by decide) w3 _ 0 out cells (by rfl) Pc3.out hol (Below.refl _ _) ⟨yK, yKey, yVal, yBy⟩ [] [.int .i64 yK, .string yKey, .string yVal, .int .i64 yBy] rfl Hrd.out (Mine.nil _ _) w3.heap.size rfl (by rfl) (by simp [Value.oneCell']) Hroom.out hz3 ?_))
        intro g' cap' w4 hp4 hb4
        have Hp4 := Lib.hid hp4
        have hb5 : Below w1.heap.size w1 w4 := hb3.trans hb4
        clear hp4 hb4 Pc3 Hrd
        go_wp2
        go_roundw
        case rel => exact ⟨0 + 1, out ++ [⟨yK, yKey, yVal, yBy⟩], by go_num, by omega, by simp [hol], Hst, Hc2, Lib.hid (by rw [List.length_append, hol]; exact Hp4.out), hb5⟩
        case measure => first | (simp [intOf]; done) | (simp [intOf]; omega)
      · have hk0I : (0 : Int) < (k : Int) := by omega
        by_cases hp0 : p.size = 0
        · have HQ := Lib.hid (opsQ_le Hle.out (Hnone.out (by omega) hp0))
          have hpe := nilOf hp0
          subst hpe
          have bw : Below w.heap.size w wr := k1.trans (hb.mono k1.size)
          clear Hstep Hnone hp0
          go_wp2
          go_ret2
          exact ro_no HQ.out bw
        have hp1 : (p.toList == (⟨#[]⟩ : ByteArray).toList) = false := str_ne (fun e => hp0 (by rw [e]; rfl))
        have hp2 : p.toList.isEmpty = false := someOf hp0
        have hp3 : (1 : Int) ≤ (p.size : Int) := by omega
        have Hps2 : Hid ((p.extract 1 p.size).size ≤ 400) := Lib.hid (by rw [ByteArray.size_extract]; omega)
        clear hp0
        have Hx := Lib.hid (fun W => Hop.out (p.extract 1 p.size) Hps2.out W)
        go_wp2_with fail
        refine (Hx.out _).mono ?_
        rintro e w3 ⟨xs, hx, rfl, k3⟩
        have Hst := Lib.hid (Hstep.out (p.extract 1 p.size) xs (by rw [if_neg hk0]; exact tail_toList p) hx)
        obtain ⟨y1, y2, y3, y4⟩ := opSp_ok (fun x hx' => Nat.le_trans (spl_sizes hx hx') Hps2.out)
        generalize opSp xs = y at *
        obtain ⟨yK, yKey, yVal, yBy⟩ := y
        dsimp only at y1 y2 y3 y4 ⊢
        have Hrd : Hid (Cod.op.rd w3 (lst [.int .i64 yK, .string yKey, .string yVal, .int .i64 yBy]) ⟨yK, yKey, yVal, yBy⟩ []) := Lib.hid (mk_op (x := ⟨yK, yKey, yVal, yBy⟩) rfl (by unfold I64; dsimp only; omega) rfl (by dsimp only; unfold maxLen; omega) rfl (by dsimp only; unfold maxLen; omega) rfl (by unfold I64; dsimp only; omega))
        have Hc2 : Hid (costOpS (out ++ [⟨yK, yKey, yVal, yBy⟩]) ≤ (k + 1) * 801) := Lib.hid (by rw [costOp_snoc]; have := Hco.out; have : costOp ⟨yK, yKey, yVal, yBy⟩ = yKey.size + yVal.size := rfl; omega)
        have Pc3 : Hid (PartC Cod.op w3 w1.heap.size 53 (.slice pa k ca) k out cells) := Lib.hid (Pc.out.below k3)
        have hb3 : Below w1.heap.size w1 w3 := below_after k3 hb
        have hz3 : w1.heap.size ≤ w3.heap.size := hb3.size
        clear Hstep Hnone Hx hx y1 y2 y3 y4 Pc Hco k3
        go_wp2_with (at_builtin; go_must (refine wpList_append_part (c := Cod.op) w3 rfl _ _ 26 (by rfl) w1.heap.size 53 53 i0 (.agg #[.int .i64 0, .string ⟨#[]⟩, .string ⟨#[]⟩, .int .i64 0]) 48 Tryd.underlying26 hi hz0 hz1 hz2 rfl (by decide) (by decide) w3 _ k out cells (by rfl) Pc3.out hol (Below.refl _ _) ⟨yK, yKey, yVal, yBy⟩ [] [.int .i64 yK, .string yKey, .string yVal, .int .i64 yBy] rfl Hrd.out (Mine.nil _ _) w3.heap.size rfl (by rfl) (by simp [Value.oneCell']) Hroom.out hz3 ?_))
        intro g' cap' w4 hp4 hb4
        have Hp4 := Lib.hid hp4
        have hb5 : Below w1.heap.size w1 w4 := hb3.trans hb4
        clear hp4 hb4 Pc3 Hrd
        go_wp2
        go_roundw
        case rel => exact ⟨k + 1, out ++ [⟨yK, yKey, yVal, yBy⟩], by go_num, by omega, by simp [hol], Hst, Hc2, Lib.hid (by rw [List.length_append, hol]; exact Hp4.out), hb5⟩
        case measure => simp [intOf]; omega
    · have hltI : (n : Int) ≤ (k : Int) := by omega
      obtain rfl : k = n := by omega
      obtain ⟨I1, I2, I3⟩ := inv_end Hinv.out (fun l h1 h2 => (sp_len Hne.out Hp.out l h1 h2).trans Hn.out)
      have hO : Own Cod.op wr w1.heap.size (.slice pa k ca) out := Pc.out.own hol
      have HO := Lib.hid hO
      have hg := fun W (b : Below wr.heap.size wr W) => Hgood.out _ out (by omega) W (hO.below b).rd
      have ht := fun (hq : goodOB out = true) W (b : Below wr.heap.size wr W) => Htext.out _ out (by have := Hco.out; omega) hq W (hO.below b).rd
      have bw : Below w.heap.size w wr := k1.trans (hb.mono k1.size)
      have Hg := Lib.hid hg
      have Ht := Lib.hid ht
      clear hg ht hO Hinv Hco Pc hol
      generalize goodOB out = q at *
      cases q
      · have HQ := Lib.hid (opsQ_le Hle.out (I2 rfl))
        clear I1 I2 I3
        go_wp2_with fail
        refine (Hg.out _ (Below.refl _ _)).mono ?_
        rintro e w2 ⟨rfl, k2⟩
        go_wp2
        go_ret2
        exact ro_no HQ.out (below_after k2 bw)
      · by_cases hq : opsS out = s
        · have HQ := Lib.hid (opsQ_le Hle.out (I1 rfl hq))
          rw [hq] at Ht
          clear I1 I2 I3 hq
          go_wp2_with fail
          refine (Hg.out _ (Below.refl _ _)).mono ?_
          rintro e w2 ⟨rfl, k2⟩
          go_wp2_with fail
          refine (Ht.out trivial _ k2).mono ?_
          rintro e w3 ⟨rfl, k3⟩
          go_wp2
          go_ret2
          exact ro_yes HQ.out (((HO.out.below (below_after k3 k2)).mono (by have := k1.size; omega))) (below_after k3 (below_after k2 bw))
        · have HQ := Lib.hid (opsQ_le Hle.out (I3 rfl hq))
          have hq2 := str_ne hq
          clear I1 I2 I3 hq
          go_wp2_with fail
          refine (Hg.out _ (Below.refl _ _)).mono ?_
          rintro e w2 ⟨rfl, k2⟩
          go_wp2_with fail
          refine (Ht.out trivial _ k2).mono ?_
          rintro e w3 ⟨rfl, k3⟩
          go_wp2
          go_ret2
          exact ro_no HQ.out (below_after k3 (below_after k2 bw))

end Go.Proofs.YtpiheobpobclgaaDoor
