/- impl.ReadOps. Printed by mkroi.py. -/
import Derived.Test.YtpiheobpobclgaaDoorReadOpS2
import Derived.Test.YtpiheobpobclgaaDoorBlk
import Derived.Test.YtpiheobpobclgaaDoorHeld
import Derived.Deep.RegionWith
import Derived.Deep.DeepCutAuto
namespace Go.Proofs.YtpiheobpobclgaaDoor
open Go.RowKit

/-- bytealg.MaxLen stands, and will. -/
def MaxW (w : World) : Prop := ∃ m, ∀ w', Below w.heap.size w w' → w'.cell? ⟨2, 0, none⟩ = some (.int .i64 m)
theorem MaxW.on {w w' : World} (h : MaxW w) (k : Below w.heap.size w w') : MaxW w' := by
  obtain ⟨m, h⟩ := h
  exact ⟨m, fun w2 k2 => h w2 (k.trans (k2.mono k.size))⟩

theorem splitB_sizes (sep : ByteArray) (save : Nat) : ∀ (k : Nat) (s : ByteArray), ∀ x ∈ Lib.splitB sep save k s, x.size ≤ s.size
  | 0, s, x, h => by
    have h : x ∈ [s] := h
    rw [List.mem_singleton] at h
    rw [h]
    exact Nat.le_refl _
  | k + 1, s, x, h => by
    unfold Lib.splitB at h
    split at h
    · rw [List.mem_singleton] at h
      rw [h]
      exact Nat.le_refl _
    · rcases List.mem_cons.1 h with rfl | h
      · rw [ByteArray.size_extract]; omega
      · have := splitB_sizes sep save k _ x h
        rw [ByteArray.size_extract] at this
        omega

/-- strings.Split -/
theorem splitI_any (s sep : ByteArray) (hs : s.size ≤ 1048576) (h1 : 1 ≤ sep.size) (w : World) (hM : MaxW w) :
    Calls Tryd.prog 44 #[.string s, .string sep] w fun e w' => ∃ (N : Nat) (xs : List ByteArray), e = .returned (.slice (some ⟨N, 0, none⟩) xs.length xs.length) ∧ xs.map (·.data.toList) = Lib.split s.data.toList sep.data.toList ∧ (∀ x ∈ xs, x.size ≤ s.size) ∧ 0 < xs.length ∧ xs.length ≤ s.size + 1 ∧
      w.heap.size ≤ N ∧ N < w'.heap.size ∧ (∀ j (h : j < xs.length), w'.cell? ⟨N, j, none⟩ = some (.string xs[j])) ∧ Below w.heap.size w w' := by
  obtain ⟨m, hm⟩ := hM
  refine (Tryd.strings_Split s sep m w (by omega) (hm w (Below.refl _ _)) h1).mono ?_
  rintro e w' ⟨rfl, rfl⟩
  have hl := Lib.splitB_all sep h1 0 _ s rfl
  have hc := Lib.countB_le sep h1 s.size s (Nat.le_refl _)
  refine ⟨w.heap.size, Lib.splitB sep 0 (Lib.countB s sep) s, by rw [hl], ?_, splitB_sizes _ _ _ _, by omega, by omega, Nat.le_refl _, by simp, fun j h => ?_, below_new _ _⟩
  · rw [Lib.splitB_data]
    rfl
  · rw [World.cell?_alloc_mark]
    simp [h]

theorem wpList_append_partO {P : Program} {ops : Array Oper} {o : Oper} {rest : List Oper} {a : Act} {Q : Exit → Act → World → Prop} {α : Type} {c : Cod α} (Wp : World) (hgd : o.guard = none) (s x : Operand) (t : TypeId) (ho : o.op = .call { callee := .builtin .append, args := #[s, x], argTypes := #[t, t] })
    (base : Nat) (e e' : TypeId) (i : TypeInfo) (z : Value) (bytes : Nat) (ht : P.underlying t = some (.slice e)) (hi : P.info? e = some i) (hz : i.zero = some z)
    (hsize : i.size = c.size) (hby : i.bytes = bytes) (hzs : z.cells.size = c.size) (hsz : 0 < c.size) (hbp : 0 < bytes)
    (w0 : World) (v : Value) (n : Nat) (xs : List α) (hs : a.eval s = v) (hp : PartV c w0 base e v n xs) (hlen : xs.length = n) (k : Below w0.heap.size w0 Wp)
    (y : α) (f : List Nat) (cs : List Value) (hcl : cs.length = c.size) (hrd : c.rd Wp (lst cs) y f) (hm : Mine Wp w0.heap.size f)
    (H : Nat) (hH : Wp.heap.size = H) (hx : a.eval x = .slice (some ⟨H, 0, none⟩) 1 1) (h1 : ∀ u ∈ cs, u.oneCell' = true)
    (hbytes : (n + 1) * bytes ≤ room) (hbase : base ≤ w0.heap.size)
    (h : ∀ g cap w', Part c w' base e (.slice (some ⟨g, 0, none⟩) (n + 1) cap) (n + 1) (xs ++ [y]) → Below base Wp w' → wpList P ops Q rest (a.put o.dst (.slice (some ⟨g, 0, none⟩) (n + 1) cap)) w') :
    wpList P ops Q (o :: rest) a (Wp.alloc (.cells cs.toArray e')) := by
  refine wpList_plain hgd fun K hK' => ?_
  have := step_append_partK (ops := ops) (Q := Q) (K := K) (E := False) Wp hgd s x t ho base e e' i z bytes ht hi hz hsize hby hzs hsz hbp w0 v n xs hs hp hlen k y f cs hcl hrd hm H hH hx h1 hbytes hbase (fun g cap w' h1 h2 _ => hK' _ _ (h g cap w' h1 h2))
  rwa [if_pos (by simp [Region.wanted, hgd])] at this

theorem idx_in (zs : List ByteArray) (x : ByteArray) : -1 ≤ Lib.idxOfS zs x ∧ Lib.idxOfS zs x ≤ zs.length := by
  have gen : ∀ (zs : List ByteArray) (i : Nat), -1 ≤ Lib.idxFromS zs x i ∧ Lib.idxFromS zs x i ≤ i + zs.length := by
    intro zs
    induction zs with
    | nil => intro i; simp only [Lib.idxFromS]; omega
    | cons z zs ih =>
      intro i
      simp only [Lib.idxFromS]
      have := ih (i + 1)
      simp only [List.length_cons]
      split <;> omega
  have := gen zs 0
  unfold Lib.idxOfS
  omega
theorem wordL_length : wordL.length = 8 := rfl

/-- slices.Index in the words -/
theorem idxWords_any (N : Nat) (u : ByteArray) (w : World) (hw : ∀ j, j < 8 → w.cell? ⟨N, j, none⟩ = some (.string (wordL.getD j ⟨#[]⟩))) :
    Calls Tryd.prog 45 #[.slice (some ⟨N, 0, none⟩) 8 8, .string u] w fun e w' => e = .returned (.int .i64 (Lib.idxOfS wordL u)) ∧ w = w' := by
  refine (Tryd.slices_Index_string N 0 8 8 wordL u w (by decide) (by decide) (fun j hj => by rw [Nat.zero_add]; exact hw j (by rw [wordL_length] at hj; exact hj))).mono ?_
  rintro e w' ⟨rfl, rfl⟩
  exact ⟨rfl, rfl⟩

set_option maxRecDepth 100000 in
set_option maxHeartbeats 12800000 in
/-- impl.ReadOps -/
theorem readOps_any (s : ByteArray) (hs : s.size ≤ 1048576) (w : World) (hT : TabW w) (hE : ErrW w) (hM : MaxW w) : Calls Tryd.prog 20 #[.string s] w (ReadOpsPost s w) := by
  obtain ⟨i0, hi, hz0, hz1, hz2⟩ := info_parts Tryd_infoR_op
  have hsI : (s.size : Int) ≤ 1048576 := by omega
  by_cases he : s = ⟨#[]⟩
  · subst he
    have HQ := Lib.hid (opsQ_le (s := ⟨#[]⟩) (by decide) opsR_empty)
    clear hs hsI
    go_enter Tryd.func20, Tryd.ntmps20
    go_wp2
    go_ret2
    exact ro_yes HQ.out ⟨_, (PartC.own (part_start (made0O (w0 := w) (e := 53) (size := Cod.op.size) (base := w.heap.size) rfl (Nat.le_refl _))) rfl).choose_spec⟩ (by (repeat (first | (with_reducible exact Below.refl _ _) | (with_reducible refine below_setCell ?_ (by first | (simp; done) | (simp; omega) | omega)) | (with_reducible refine below_alloc _ ?_) | (with_reducible refine below_drewN ?_ _) | (with_reducible assumption) | (with_reducible refine below_after (by assumption) ?_))))
  have hne1 : (s.toList == (⟨#[]⟩ : ByteArray).toList) = false := str_ne he
  have hne2 : s.toList.isEmpty = false := someOf fun h => he (nilOf h)
  by_cases hlen : s.size ≤ 400
  rotate_left
  · have HQ := Lib.hid (opsQ_long hlen)
    have hlI : (400 : Int) < (s.size : Int) := by omega
    clear hlen hs he
    go_enter Tryd.func20, Tryd.ntmps20
    go_wp2
    go_ret2
    exact ro_no HQ.out (by (repeat (first | (with_reducible exact Below.refl _ _) | (with_reducible refine below_setCell ?_ (by first | (simp; done) | (simp; omega) | omega)) | (with_reducible refine below_alloc _ ?_) | (with_reducible refine below_drewN ?_ _) | (with_reducible assumption) | (with_reducible refine below_after (by assumption) ?_))))
  have hlI : (s.size : Int) ≤ 400 := by omega
  have Hle := Lib.hid hlen
  have Hgood := Lib.hid (fun (v : Value) (l : List OpD) (hl : l.length ≤ 1048576) (W : World) (r : Rd Cod.op W v l) => goodOps_any v l hl W r)
  have Htext := Lib.hid (fun (v : Value) (l : List OpD) (hl : costOpS l ≤ 1048576) (hq : goodOB l = true) (W : World) (b : Below w.heap.size w W) (r : Rd Cod.op W v l) => opsText_any v l hl hq W (hT.on b) r)
  have Hne := Lib.hid he
  have Hsp := Lib.hid (fun W (b : Below w.heap.size w W) => splitI_any s ⟨#[59, 32]⟩ hs (by decide) W (hM.on b))
  have Hsp2 := Lib.hid (fun (p : ByteArray) (h : p.size ≤ 1048576) (W : World) (b : Below w.heap.size w W) => splitI_any p ⟨#[32]⟩ h (by decide) W (hM.on b))
  have Hint := Lib.hid (fun (p : ByteArray) (h : p.size ≤ 1048576) (W : World) (b : Below w.heap.size w W) => readInt_any p h (-9999) 9999 W (hT.on b) (hE.on b))
  clear hlen hs he hT hE hM
  go_enter Tryd.func20, Tryd.ntmps20
  go_wp2_with fail
  refine (Hsp.out _ (by (repeat (first | (with_reducible exact Below.refl _ _) | (with_reducible refine below_setCell ?_ (by first | (simp; done) | (simp; omega) | omega)) | (with_reducible refine below_alloc _ ?_) | (with_reducible refine below_drewN ?_ _) | (with_reducible assumption) | (with_reducible refine below_after (by assumption) ?_))))).mono ?_
  rintro e w1 ⟨N, ps, rfl, hp, hps, hpos, hpn, hN0, hN, hc, k1⟩
  have Hp : Hid (ps.map (·.data.toList) = Lib.split s.data.toList [59, 32]) := Lib.hid hp
  have Hps := Lib.hid hps
  have HC := Lib.hid hc
  have b1 : Below w.heap.size w w1 := below_after k1 (by (repeat (first | (with_reducible exact Below.refl _ _) | (with_reducible refine below_setCell ?_ (by first | (simp; done) | (simp; omega) | omega)) | (with_reducible refine below_alloc _ ?_) | (with_reducible refine below_drewN ?_ _) | (with_reducible assumption) | (with_reducible refine below_after (by assumption) ?_))))
  have hnb : ps.length ≤ 401 := by have := Hle.out; omega
  obtain ⟨n, hn⟩ : ∃ n, ps.length = n := ⟨_, rfl⟩
  have Hn := Lib.hid hn
  rw [hn] at hnb hpos ⊢
  have hw1 : w.heap.size < w1.heap.size := by simp at hN0; omega
  clear hp hps hc hn hpn k1 Hsp hN0
  go_wp2
  go_loopw [4, 19] (fun a i wr => ∃ (k : Nat) (out : List OpD) (pa : Option Addr) (ca : Nat), a = .slice pa k ca ∧ i = .int .i64 (k : Int) ∧ k ≤ n ∧ out.length = k ∧ Hid (OpsInv s k out) ∧ Hid (costOpS out ≤ k * 801) ∧ Hid (PartV Cod.op wr w1.heap.size 53 (.slice pa k ca) k out) ∧ Hid (k = 0 → pa = some ⟨w.heap.size, 0, none⟩ ∧ ca = 0) ∧ Below w1.heap.size w1 wr) (fun _ i _ => n - (intOf i).toNat)
  case atStart => exact ⟨0, [], _, 0, rfl, rfl, Nat.zero_le _, rfl, Lib.hid (inv_start s), Lib.hid (by decide), Lib.hid (Or.inl ⟨_, rfl, rfl, rfl⟩), Lib.hid (fun _ => ⟨rfl, rfl⟩), Below.refl _ _⟩
  case round =>
    obtain ⟨k, out, pa, ca, rfl, rfl, hk, hol, Hinv, Hco, HP, Hst0, hb⟩ := hrel
    have hbs := hb.size
    have bw : Below w.heap.size w wr := b1.trans (hb.mono b1.size)
    by_cases hlt : k < n
    · have hltI : (k : Int) < (n : Int) := by omega
      have hkl : k < ps.length := by have := Hn.out; omega
      have hcell : wr.cell? ⟨N, k, none⟩ = some (.string ps[k]) := (hb.cell (p := ⟨N, k, none⟩) hN).trans (HC.out k hkl)
      have Hstep := Lib.hid (fun (xs : List ByteArray) h2 => im_step Hne.out Hp.out Hinv.out hkl (xs := xs) h2)
      have Hnone := Lib.hid (fun (xs : List ByteArray) h2 h3 => im_none Hne.out Hp.out hkl (xs := xs) h2 h3)
      have Hpsz : Hid (ps[k].size ≤ 400) := Lib.hid (Nat.le_trans (Hps.out _ (List.getElem_mem hkl)) Hle.out)
      generalize ps[k] = p at *
      clear hkl Hst0
      have Hroom : Hid ((k + 1) * 48 ≤ room) := Lib.hid (by unfold room; omega)
      have Hs2 := Lib.hid (fun W b => Hsp2.out p (by have := Hpsz.out; omega) W b)
      go_wp2_with fail
      refine (Hs2.out _ bw).mono ?_
      rintro e w2 ⟨M, xs, rfl, hx, hxs, hxp, -, hM0, hM, hxc, k2⟩
      have Hx : Hid (xs.map (·.data.toList) = Lib.split p.data.toList [32]) := Lib.hid hx
      have Hxs : Hid (∀ x ∈ xs, x.size ≤ 400) := Lib.hid fun x h => Nat.le_trans (hxs x h) Hpsz.out
      have HX := Lib.hid hxc
      obtain ⟨m, hm⟩ : ∃ m, xs.length = m := ⟨_, rfl⟩
      have Hm := Lib.hid hm
      rw [hm] at hxp ⊢
      have b2 : Below w.heap.size w w2 := below_after k2 bw
      have hb2 : Below w1.heap.size w1 w2 := below_after k2 hb
      have HP2 := Lib.hid (HP.out.below k2)
      clear hx hxs hxc hm Hs2 hcell HP k2 hM0
      by_cases hm2 : m < 2
      · have hm2I : (m : Int) < 2 := by omega
        have HQ := Lib.hid (opsQ_le Hle.out (Hnone.out xs Hx.out (by have := Hm.out; omega)))
        clear Hstep Hnone
        go_wp2
        go_ret2
        exact ro_no HQ.out b2
      have hm2I : 2 ≤ (m : Int) := by omega
      have h0m : (0 : Int) < (m : Int) := by omega
      have h1m : (1 : Int) < (m : Int) := by omega
      obtain ⟨u, hu⟩ : ∃ u, xs[0]'(by have := Hm.out; omega) = u := ⟨_, rfl⟩
      obtain ⟨v, hv⟩ : ∃ v, xs[1]'(by have := Hm.out; omega) = v := ⟨_, rfl⟩
      have c0 : w2.cell? ⟨M, 0, none⟩ = some (.string u) := by rw [← hu]; exact HX.out 0 (by have := Hm.out; omega)
      have c1 : w2.cell? ⟨M, 1, none⟩ = some (.string v) := by rw [← hv]; exact HX.out 1 (by have := Hm.out; omega)
      have Hg0 : Hid (xs.getD 0 ⟨#[]⟩ = u) := Lib.hid (by rw [List.getD_eq_getElem?_getD, List.getElem?_eq_getElem (by have := Hm.out; omega), hu]; rfl)
      have Hg1 : Hid (xs.getD 1 ⟨#[]⟩ = v) := Lib.hid (by rw [List.getD_eq_getElem?_getD, List.getElem?_eq_getElem (by have := Hm.out; omega), hv]; rfl)
      have Hv : Hid (v.size ≤ 400) := Lib.hid (Hxs.out v (by rw [← hv]; exact List.getElem_mem _))
      have Hst := Lib.hid (Hstep.out xs Hx.out)
      obtain ⟨KK, hKK⟩ : ∃ K, Lib.idxOfS wordL u = K := ⟨_, rfl⟩
      have hKin : -1 ≤ KK ∧ KK ≤ 8 := by rw [← hKK]; exact idx_in wordL u
      have Hop : Hid (opIm xs = ⟨KK, v, if m = 3 ∧ (KK = 2 ∨ KK = 7) then xs.getD 2 ⟨#[]⟩ else ⟨#[]⟩, if m = 3 ∧ (KK = 4 ∨ KK = 5) then (readI (xs.getD 2 ⟨#[]⟩).data.toList (-9999) 9999).1 else 0⟩) := Lib.hid (by unfold opIm; rw [Hg0.out, Hg1.out, hKK, Hm.out])
      have Hidx := Lib.hid (fun (M : Nat) W h => hKK ▸ idxWords_any M u W h)
      clear hu hv Hstep Hnone hKK
      go_upto_region 12 with fail
      go_cut [8] (fun s8 wx => ∃ B, s8 = .pointer (some ⟨B, 0, none⟩) ∧ w2.heap.size ≤ B ∧ Blk wx B 53 #[.int .i64 KK, .string v, .string ⟨#[]⟩, .int .i64 0] ∧ Below w2.heap.size w2 wx)
      case first =>
        refine wp_region_d 10 (fun w' => w'.cell? ⟨M, 0, none⟩ = some (.string u) ∧ w'.cell? ⟨M, 1, none⟩ = some (.string v)) (by kernel_rfl) ?_
        obtain ⟨wd, hwd⟩ : ∃ wd, w2.drew = wd := ⟨_, rfl⟩
        have md : Below w2.heap.size w2 wd := by rw [← hwd]; exact (Below.refl _ _).drew
        rw [hwd]
        clear hwd
        have hS : wd.cell? ⟨M, 0, none⟩ = some (.string u) ∧ wd.cell? ⟨M, 1, none⟩ = some (.string v) := ⟨cell_step md c0, cell_step md c1⟩
        refine d_take (f := 30) (v := ?_) 1 rfl (by kernel_rfl) (fun _ _ _ h => h) (Or.inl ⟨by rfl, ?_⟩) hS ?_
        rotate_left
        · intro wx hx
          obtain ⟨x0, x1⟩ := hx
          first | (go_simp; done) | (go_simp; with_reducible rfl)
        simp only [Act.put, List.setIfInBounds_toArray, List.set_cons_zero, List.set_cons_succ]
        refine d_take (f := 30) (v := ?_) 2 rfl (by kernel_rfl) (fun _ _ _ h => h) (Or.inl ⟨by rfl, ?_⟩) hS ?_
        rotate_left
        · intro wx hx
          obtain ⟨x0, x1⟩ := hx
          first | (go_simp; done) | (go_simp; with_reducible rfl)
        simp only [Act.put, List.setIfInBounds_toArray, List.set_cons_zero, List.set_cons_succ]
        refine d_take (f := 30) (v := ?_) 3 rfl (by kernel_rfl) (fun _ _ _ h => h) (Or.inl ⟨by rfl, ?_⟩) hS ?_
        rotate_left
        · intro wx hx
          obtain ⟨x0, x1⟩ := hx
          first | (go_simp; done) | (go_simp; with_reducible rfl)
        simp only [Act.put, List.setIfInBounds_toArray, List.set_cons_zero, List.set_cons_succ]
        refine d_take (f := 30) (v := ?_) 5 rfl (by kernel_rfl) (fun _ _ _ h => h) (Or.inl ⟨by rfl, ?_⟩) hS ?_
        rotate_left
        · intro wx hx
          obtain ⟨x0, x1⟩ := hx
          first | (go_simp; done) | (go_simp; with_reducible rfl)
        simp only [Act.put, List.setIfInBounds_toArray, List.set_cons_zero, List.set_cons_succ]
        refine d_take (f := 30) (v := ?_) 6 rfl (by kernel_rfl) (fun _ _ _ h => h) (Or.inl ⟨by rfl, ?_⟩) hS ?_
        rotate_left
        · intro wx hx
          obtain ⟨x0, x1⟩ := hx
          first | (go_simp; done) | (go_simp; with_reducible rfl)
        simp only [Act.put, List.setIfInBounds_toArray, List.set_cons_zero, List.set_cons_succ]
        refine d_take (f := 30) (v := ?_) 7 rfl (by kernel_rfl) (fun _ _ _ h => h) (Or.inl ⟨by rfl, ?_⟩) hS ?_
        rotate_left
        · intro wx hx
          obtain ⟨x0, x1⟩ := hx
          first | (go_simp; done) | (go_simp; with_reducible rfl)
        simp only [Act.put, List.setIfInBounds_toArray, List.set_cons_zero, List.set_cons_succ]
        refine d_two 0 9 (by kernel_rfl) rfl rfl (fun K hK => ?_) (fun K hK => ?_)
        · skip
          go_simp
          go_at_call 46
          refine (opWords8_any _).mono ?_
          rintro e w3 ⟨N2, rfl, hN20, hN21, hwd, k3⟩
          have m3 : Below w2.heap.size w2 w3 := below_after k3 md
          have HWd := Lib.hid hwd
          have hS3 : w3.cell? ⟨M, 0, none⟩ = some (.string u) ∧ w3.cell? ⟨M, 1, none⟩ = some (.string v) := ⟨cell_step m3 c0, cell_step m3 c1⟩
          refine hK.out _ _ (fun _ => hS3) ?_
          clear hK K hwd k3
          try simp only [Act.put, List.setIfInBounds_toArray, List.set_cons_zero, List.set_cons_succ]
          refine d_two 4 9 (by kernel_rfl) rfl rfl (fun K hK => ?_) (fun K hK => ?_)
          · skip
            go_simp
            go_at_call 45
            refine (Hidx.out _ _ HWd.out).mono ?_
            rintro e w4 ⟨rfl, rfl⟩
            refine hK.out _ _ (fun _ => hS3) ?_
            clear hK K
            try simp only [Act.put, List.setIfInBounds_toArray, List.set_cons_zero, List.set_cons_succ]
            refine d_takeY (v := ?_) 8 rfl (by kernel_rfl) (fun _ _ _ h => h) (Or.inl ⟨by rfl, ?_⟩) hS3 ?_
            rotate_left
            · intro wx _
              first | (go_simp; done) | (go_simp; with_reducible rfl)
            simp only [Act.put, List.setIfInBounds_toArray, List.set_cons_zero, List.set_cons_succ]
            refine d_step 9 (by kernel_rfl) rfl (fun K hK => ?_)
            go_simp
            generalize hA : World.alloc _ _ = wA
            have D : Blk wA w3.heap.size 53 #[.int .i64 0, .string ⟨#[]⟩, .string ⟨#[]⟩, .int .i64 0] := by rw [← hA]; exact Blk.new _ _ _
            have mA : Below w2.heap.size w2 wA := by rw [← hA]; exact below_alloc _ m3
            have mA3 : Below w3.heap.size w3 wA := by rw [← hA]; exact below_new _ _
            have hBlo : w2.heap.size ≤ w3.heap.size := (m3).size
            have hS4 : wA.cell? ⟨M, 0, none⟩ = some (.string u) ∧ wA.cell? ⟨M, 1, none⟩ = some (.string v) := ⟨cell_step mA c0, cell_step mA c1⟩
            clear hA
            refine hK.out _ _ (fun _ => hS4) ?_
            clear hK K
            try simp only [Act.put, List.setIfInBounds_toArray, List.set_cons_zero, List.set_cons_succ]
            have e0 := D.cell 0 (v := .int .i64 0) rfl
            have e1 := D.cell 1 (v := .string ⟨#[]⟩) rfl
            have e2 := D.cell 2 (v := .string ⟨#[]⟩) rfl
            have e3 := D.cell 3 (v := .int .i64 0) rfl
            have g0 := D.frozen 0
            have g1 := D.frozen 1
            have g2 := D.frozen 2
            have g3 := D.frozen 3
            refine d_step 10 (by kernel_rfl) rfl (fun K hK => ?_)
            go_simp
            refine hK.out _ _ (fun h => by exact absurd h (by decide)) ?_
            clear hK K
            refine d_done (by kernel_rfl) ?_ _
            try simp only [Act.put, List.setIfInBounds_toArray, List.set_cons_zero, List.set_cons_succ]
            go_wp2_with fail
            go_meet
            exact ⟨_, rfl, hBlo, by have := (((D.set 0 (.int .i64 KK)).set 1 (.string v)).set 2 (.string ⟨#[]⟩)).set 3 (.int .i64 0); simpa using this, by (repeat (first | (with_reducible exact Below.refl _ _) | (with_reducible refine below_setCell ?_ (by first | (simp; done) | (simp; omega) | omega)) | (with_reducible refine below_alloc _ ?_) | (with_reducible refine below_drewN ?_ _) | (with_reducible assumption) | (with_reducible refine below_after (by assumption) ?_)))⟩
          · skip
            go_simp
            generalize hA : World.alloc _ _ = wA
            have D : Blk wA w3.heap.size 53 #[.int .i64 0, .string ⟨#[]⟩, .string ⟨#[]⟩, .int .i64 0] := by rw [← hA]; exact Blk.new _ _ _
            have mA : Below w2.heap.size w2 wA := by rw [← hA]; exact below_alloc _ m3
            have mA3 : Below w3.heap.size w3 wA := by rw [← hA]; exact below_new _ _
            have hBlo : w2.heap.size ≤ w3.heap.size := (m3).size
            have hS4 : wA.cell? ⟨M, 0, none⟩ = some (.string u) ∧ wA.cell? ⟨M, 1, none⟩ = some (.string v) := ⟨cell_step mA c0, cell_step mA c1⟩
            clear hA
            refine hK.out _ _ (fun _ => hS4) ?_
            clear hK K
            try simp only [Act.put, List.setIfInBounds_toArray, List.set_cons_zero, List.set_cons_succ]
            replace HWd : Hid (∀ j, j < 8 → wA.cell? ⟨N2, j, none⟩ = some (.string (wordL.getD j ⟨#[]⟩))) := Lib.hid fun j hj => (mA3.cell (p := ⟨N2, j, none⟩) hN21).trans (HWd.out j hj)
            refine d_step 4 (by kernel_rfl) rfl (fun K hK => ?_)
            go_simp
            go_at_call 45
            refine (Hidx.out _ _ HWd.out).mono ?_
            rintro e w4 ⟨rfl, rfl⟩
            refine hK.out _ _ (fun _ => hS4) ?_
            clear hK K
            try simp only [Act.put, List.setIfInBounds_toArray, List.set_cons_zero, List.set_cons_succ]
            refine d_takeY (v := ?_) 8 rfl (by kernel_rfl) (fun _ _ _ h => h) (Or.inl ⟨by rfl, ?_⟩) hS4 ?_
            rotate_left
            · intro wx _
              first | (go_simp; done) | (go_simp; with_reducible rfl)
            simp only [Act.put, List.setIfInBounds_toArray, List.set_cons_zero, List.set_cons_succ]
            have e0 := D.cell 0 (v := .int .i64 0) rfl
            have e1 := D.cell 1 (v := .string ⟨#[]⟩) rfl
            have e2 := D.cell 2 (v := .string ⟨#[]⟩) rfl
            have e3 := D.cell 3 (v := .int .i64 0) rfl
            have g0 := D.frozen 0
            have g1 := D.frozen 1
            have g2 := D.frozen 2
            have g3 := D.frozen 3
            refine d_step 10 (by kernel_rfl) rfl (fun K hK => ?_)
            go_simp
            refine hK.out _ _ (fun h => by exact absurd h (by decide)) ?_
            clear hK K
            refine d_done (by kernel_rfl) ?_ _
            try simp only [Act.put, List.setIfInBounds_toArray, List.set_cons_zero, List.set_cons_succ]
            go_wp2_with fail
            go_meet
            exact ⟨_, rfl, hBlo, by have := (((D.set 0 (.int .i64 KK)).set 1 (.string v)).set 2 (.string ⟨#[]⟩)).set 3 (.int .i64 0); simpa using this, by (repeat (first | (with_reducible exact Below.refl _ _) | (with_reducible refine below_setCell ?_ (by first | (simp; done) | (simp; omega) | omega)) | (with_reducible refine below_alloc _ ?_) | (with_reducible refine below_drewN ?_ _) | (with_reducible assumption) | (with_reducible refine below_after (by assumption) ?_)))⟩
        · skip
          go_simp
          generalize hA : World.alloc _ _ = wA
          have D : Blk wA wd.heap.size 53 #[.int .i64 0, .string ⟨#[]⟩, .string ⟨#[]⟩, .int .i64 0] := by rw [← hA]; exact Blk.new _ _ _
          have mA : Below w2.heap.size w2 wA := by rw [← hA]; exact below_alloc _ md
          have mA3 : Below wd.heap.size wd wA := by rw [← hA]; exact below_new _ _
          have hBlo : w2.heap.size ≤ wd.heap.size := (md).size
          have hS4 : wA.cell? ⟨M, 0, none⟩ = some (.string u) ∧ wA.cell? ⟨M, 1, none⟩ = some (.string v) := ⟨cell_step mA c0, cell_step mA c1⟩
          clear hA
          refine hK.out _ _ (fun _ => hS4) ?_
          clear hK K
          try simp only [Act.put, List.setIfInBounds_toArray, List.set_cons_zero, List.set_cons_succ]
          refine d_step 0 (by kernel_rfl) rfl (fun K hK => ?_)
          go_simp
          go_at_call 46
          refine (opWords8_any _).mono ?_
          rintro e w3 ⟨N2, rfl, hN20, hN21, hwd, k3⟩
          have m3 : Below w2.heap.size w2 w3 := below_after k3 mA
          have HWd := Lib.hid hwd
          have hS3 : w3.cell? ⟨M, 0, none⟩ = some (.string u) ∧ w3.cell? ⟨M, 1, none⟩ = some (.string v) := ⟨cell_step m3 c0, cell_step m3 c1⟩
          have D3 := D.below k3
          refine hK.out _ _ (fun _ => hS3) ?_
          clear hK K hwd k3
          try simp only [Act.put, List.setIfInBounds_toArray, List.set_cons_zero, List.set_cons_succ]
          refine d_step 4 (by kernel_rfl) rfl (fun K hK => ?_)
          go_simp
          go_at_call 45
          refine (Hidx.out _ _ HWd.out).mono ?_
          rintro e w4 ⟨rfl, rfl⟩
          refine hK.out _ _ (fun _ => hS3) ?_
          clear hK K
          try simp only [Act.put, List.setIfInBounds_toArray, List.set_cons_zero, List.set_cons_succ]
          refine d_takeY (v := ?_) 8 rfl (by kernel_rfl) (fun _ _ _ h => h) (Or.inl ⟨by rfl, ?_⟩) hS3 ?_
          rotate_left
          · intro wx _
            first | (go_simp; done) | (go_simp; with_reducible rfl)
          simp only [Act.put, List.setIfInBounds_toArray, List.set_cons_zero, List.set_cons_succ]
          have e0 := D3.cell 0 (v := .int .i64 0) rfl
          have e1 := D3.cell 1 (v := .string ⟨#[]⟩) rfl
          have e2 := D3.cell 2 (v := .string ⟨#[]⟩) rfl
          have e3 := D3.cell 3 (v := .int .i64 0) rfl
          have g0 := D3.frozen 0
          have g1 := D3.frozen 1
          have g2 := D3.frozen 2
          have g3 := D3.frozen 3
          refine d_step 10 (by kernel_rfl) rfl (fun K hK => ?_)
          go_simp
          refine hK.out _ _ (fun h => by exact absurd h (by decide)) ?_
          clear hK K
          refine d_done (by kernel_rfl) ?_ _
          try simp only [Act.put, List.setIfInBounds_toArray, List.set_cons_zero, List.set_cons_succ]
          go_wp2_with fail
          go_meet
          exact ⟨_, rfl, hBlo, by have := (((D3.set 0 (.int .i64 KK)).set 1 (.string v)).set 2 (.string ⟨#[]⟩)).set 3 (.int .i64 0); simpa using this, by (repeat (first | (with_reducible exact Below.refl _ _) | (with_reducible refine below_setCell ?_ (by first | (simp; done) | (simp; omega) | omega)) | (with_reducible refine below_alloc _ ?_) | (with_reducible refine below_drewN ?_ _) | (with_reducible assumption) | (with_reducible refine below_after (by assumption) ?_)))⟩
      case rest =>
        obtain ⟨B, rfl, hB, D, kW⟩ := hcut
        have f0 := D.cell 0 (v := .int .i64 KK) rfl
        have b5 : Below w.heap.size w wc := below_after kW b2
        clear Hidx c0 c1
        by_cases hm3 : m = 3
        rotate_left
        · have hm3I : ((m : Int) == 3) = false := by rw [beq_eq_false_iff_ne]; omega
          have Ho : Hid (opIm xs = ⟨KK, v, ⟨#[]⟩, 0⟩) := Lib.hid (by rw [Hop.out, if_neg (fun h => hm3 h.1), if_neg (fun h => hm3 h.1)])
          clear Hop hm3
          have e0 := D.cell 0 (v := .int .i64 KK) rfl
          have e1 := D.cell 1 (v := .string v) rfl
          have e2 := D.cell 2 (v := .string ⟨#[]⟩) rfl
          have e3 := D.cell 3 (v := .int .i64 0) rfl
          have Hrd : Hid (Cod.op.rd wc (lst [.int .i64 KK, .string v, .string ⟨#[]⟩, .int .i64 0]) ⟨KK, v, ⟨#[]⟩, 0⟩ []) := Lib.hid (mk_op (x := ⟨KK, v, ⟨#[]⟩, 0⟩) rfl (by unfold I64; dsimp only; omega) rfl (by have := Hv.out; dsimp only; unfold maxLen; omega) rfl (by dsimp only; unfold maxLen; first | decide | omega) rfl (by unfold I64; dsimp only; omega))
          have Hc2 : Hid (costOpS (out ++ [⟨KK, v, ⟨#[]⟩, 0⟩]) ≤ (k + 1) * 801) := Lib.hid (by rw [costOp_snoc]; have := Hco.out; have := Hv.out; have : costOp ⟨KK, v, ⟨#[]⟩, 0⟩ = v.size + (⟨#[]⟩ : ByteArray).size := rfl; have : (⟨#[]⟩ : ByteArray).size = 0 := rfl; omega)
          have HPW := Lib.hid (HP2.out.below kW)
          have hbW : Below w1.heap.size w1 wc := below_after kW hb2
          have hzW : w1.heap.size ≤ wc.heap.size := hbW.size
          rw [Ho.out] at Hst
          go_wp2_with (at_builtin; go_must (refine wpList_append_partO (c := Cod.op) wc rfl _ _ 26 (by rfl) w1.heap.size 53 53 i0 (.agg #[.int .i64 0, .string ⟨#[]⟩, .string ⟨#[]⟩, .int .i64 0]) 48 Tryd.underlying26 hi hz0 hz1 hz2 rfl (by decide) (by decide) wc _ k out (by rfl) HPW.out hol (Below.refl _ _) ⟨KK, v, ⟨#[]⟩, 0⟩ [] [.int .i64 KK, .string v, .string ⟨#[]⟩, .int .i64 0] rfl Hrd.out (Mine.nil _ _) wc.heap.size rfl (by rfl) (by simp [Value.oneCell']) Hroom.out hzW ?_))
          intro g' cap' w9 hp9 hb9
          have Hp9 : Hid (PartV Cod.op w9 w1.heap.size 53 (.slice (some ⟨g', 0, none⟩) (k + 1) cap') (k + 1) (out ++ [⟨KK, v, ⟨#[]⟩, 0⟩])) := Lib.hid (Or.inr hp9)
          have hb10 : Below w1.heap.size w1 w9 := hbW.trans hb9
          have Hl9 : Hid ((out ++ [(⟨KK, v, ⟨#[]⟩, 0⟩ : OpD)]).length = k + 1) := Lib.hid (by rw [List.length_append, hol]; rfl)
          clear hp9 hb9 HPW Hrd
          go_wp2
          go_roundw
          case rel => exact ⟨k + 1, out ++ [⟨KK, v, ⟨#[]⟩, 0⟩], _, cap', rfl, by go_num, by omega, Hl9.out, Hst, Hc2, Hp9, Lib.hid (fun h => absurd h (by omega)), hb10⟩
          case measure => simp [intOf]; omega
        subst hm3
        obtain ⟨x, hx2⟩ : ∃ x, xs[2]'(by have := Hm.out; omega) = x := ⟨_, rfl⟩
        have c2 : w2.cell? ⟨M, 2, none⟩ = some (.string x) := by rw [← hx2]; exact HX.out 2 (by have := Hm.out; omega)
        have Hg2 : Hid (xs.getD 2 ⟨#[]⟩ = x) := Lib.hid (by rw [List.getD_eq_getElem?_getD, List.getElem?_eq_getElem (by have := Hm.out; omega), hx2]; rfl)
        have Hxz : Hid (x.size ≤ 400) := Lib.hid (Hxs.out x (by rw [← hx2]; exact List.getElem_mem _))
        have d2 : wc.cell? ⟨M, 2, none⟩ = some (.string x) := (kW.cell (p := ⟨M, 2, none⟩) hM).trans c2
        clear hx2 c2
        have HV := fun W => hasVal_any KK W
        have HB := fun W => hasBy_any KK W
        by_cases hV : KK = 2 ∨ KK = 7
        · have Ho : Hid (opIm xs = ⟨KK, v, x, 0⟩) := Lib.hid (by rw [Hop.out, if_pos ⟨rfl, hV⟩, if_neg (fun h => by omega), Hg2.out])
          rw [show (decide (KK = 2) || decide (KK = 7)) = true from by simpa using hV] at HV
          rw [show (decide (KK = 4) || decide (KK = 5)) = false from by simp; omega] at HB
          have hMB : M ≠ B := by omega
          have f2 := D.cell 2 (v := .string ⟨#[]⟩) rfl
          have q2 := D.frozen 2
          clear Hop hV
          replace HV := Lib.hid HV
          replace HB := Lib.hid HB
          go_wp2_with fail
          refine (HV.out _).mono ?_
          rintro e w5 ⟨rfl, rfl⟩
          go_upto_region 15 with fail
          generalize hS : World.setCell _ _ _ = wS
          replace D : Blk wS B 53 #[.int .i64 KK, .string v, .string x, .int .i64 0] := by rw [← hS]; exact D.set 2 (.string x)
          replace kW : Below w2.heap.size w2 wS := by rw [← hS]; exact below_setCell kW (by show w2.heap.size ≤ B; exact hB)
          replace f0 := D.cell 0 (v := .int .i64 KK) rfl
          clear hS d2 f2 q2 b5
          go_wp2_with fail
          refine (HB.out _).mono ?_
          rintro e w5 ⟨rfl, rfl⟩
          clear f0
          have e0 := D.cell 0 (v := .int .i64 KK) rfl
          have e1 := D.cell 1 (v := .string v) rfl
          have e2 := D.cell 2 (v := .string x) rfl
          have e3 := D.cell 3 (v := .int .i64 0) rfl
          have Hrd : Hid (Cod.op.rd wS (lst [.int .i64 KK, .string v, .string x, .int .i64 0]) ⟨KK, v, x, 0⟩ []) := Lib.hid (mk_op (x := ⟨KK, v, x, 0⟩) rfl (by unfold I64; dsimp only; omega) rfl (by have := Hv.out; dsimp only; unfold maxLen; omega) rfl (by have := Hxz.out; dsimp only; unfold maxLen; first | decide | omega) rfl (by unfold I64; dsimp only; omega))
          have Hc2 : Hid (costOpS (out ++ [⟨KK, v, x, 0⟩]) ≤ (k + 1) * 801) := Lib.hid (by rw [costOp_snoc]; have := Hco.out; have := Hv.out; have := Hxz.out; have : costOp ⟨KK, v, x, 0⟩ = v.size + (x : ByteArray).size := rfl; omega)
          have HPW := Lib.hid (HP2.out.below kW)
          have hbW : Below w1.heap.size w1 wS := below_after kW hb2
          have hzW : w1.heap.size ≤ wS.heap.size := hbW.size
          rw [Ho.out] at Hst
          go_wp2_with (at_builtin; go_must (refine wpList_append_partO (c := Cod.op) wS rfl _ _ 26 (by rfl) w1.heap.size 53 53 i0 (.agg #[.int .i64 0, .string ⟨#[]⟩, .string ⟨#[]⟩, .int .i64 0]) 48 Tryd.underlying26 hi hz0 hz1 hz2 rfl (by decide) (by decide) wS _ k out (by rfl) HPW.out hol (Below.refl _ _) ⟨KK, v, x, 0⟩ [] [.int .i64 KK, .string v, .string x, .int .i64 0] rfl Hrd.out (Mine.nil _ _) wS.heap.size rfl (by rfl) (by simp [Value.oneCell']) Hroom.out hzW ?_))
          intro g' cap' w9 hp9 hb9
          have Hp9 : Hid (PartV Cod.op w9 w1.heap.size 53 (.slice (some ⟨g', 0, none⟩) (k + 1) cap') (k + 1) (out ++ [⟨KK, v, x, 0⟩])) := Lib.hid (Or.inr hp9)
          have hb10 : Below w1.heap.size w1 w9 := hbW.trans hb9
          have Hl9 : Hid ((out ++ [(⟨KK, v, x, 0⟩ : OpD)]).length = k + 1) := Lib.hid (by rw [List.length_append, hol]; rfl)
          clear hp9 hb9 HPW Hrd
          go_wp2
          go_roundw
          case rel => exact ⟨k + 1, out ++ [⟨KK, v, x, 0⟩], _, cap', rfl, by go_num, by omega, Hl9.out, Hst, Hc2, Hp9, Lib.hid (fun h => absurd h (by omega)), hb10⟩
          case measure => simp [intOf]; omega
        rw [show (decide (KK = 2) || decide (KK = 7)) = false from by simp; omega] at HV
        by_cases hBy : KK = 4 ∨ KK = 5
        · obtain ⟨z, hz⟩ : ∃ z, (readI x.data.toList (-9999) 9999).1 = z := ⟨_, rfl⟩
          have hzin : -9999 ≤ z ∧ z ≤ 9999 := by rw [← hz]; exact readI_in (by decide) (by decide) _
          have HI := Lib.hid (fun W b => Hint.out x (by have := Hxz.out; omega) W b)
          have Ho : Hid (opIm xs = ⟨KK, v, ⟨#[]⟩, z⟩) := Lib.hid (by rw [Hop.out, if_neg (fun h => hV h.2), if_pos ⟨rfl, hBy⟩, Hg2.out, hz])
          rw [hz] at HI
          generalize (readI x.data.toList (-9999) 9999).2 = zb at *
          rw [show (decide (KK = 4) || decide (KK = 5)) = true from by simpa using hBy] at HB
          clear Hop hV hBy hz
          replace HV := Lib.hid HV
          replace HB := Lib.hid HB
          go_wp2_with fail
          refine (HV.out _).mono ?_
          rintro e w5 ⟨rfl, rfl⟩
          go_wp2_with fail
          refine (HB.out _).mono ?_
          rintro e w5 ⟨rfl, rfl⟩
          go_wp2_with fail
          refine (HI.out _ b5).mono ?_
          rintro e w6 ⟨rfl, k6⟩
          replace D := D.below k6
          replace kW : Below w2.heap.size w2 w6 := below_after k6 kW
          have f3 := D.cell 3 (v := .int .i64 0) rfl
          have q3 := D.frozen 3
          clear f0 d2 b5 k6
          go_upto_region 17 with fail
          generalize hS : World.setCell _ _ _ = wS
          replace D : Blk wS B 53 #[.int .i64 KK, .string v, .string ⟨#[]⟩, .int .i64 z] := by rw [← hS]; exact D.set 3 (.int .i64 z)
          replace kW : Below w2.heap.size w2 wS := by rw [← hS]; exact below_setCell kW (by show w2.heap.size ≤ B; exact hB)
          clear hS f3 q3
          have e0 := D.cell 0 (v := .int .i64 KK) rfl
          have e1 := D.cell 1 (v := .string v) rfl
          have e2 := D.cell 2 (v := .string ⟨#[]⟩) rfl
          have e3 := D.cell 3 (v := .int .i64 z) rfl
          have Hrd : Hid (Cod.op.rd wS (lst [.int .i64 KK, .string v, .string ⟨#[]⟩, .int .i64 z]) ⟨KK, v, ⟨#[]⟩, z⟩ []) := Lib.hid (mk_op (x := ⟨KK, v, ⟨#[]⟩, z⟩) rfl (by unfold I64; dsimp only; omega) rfl (by have := Hv.out; dsimp only; unfold maxLen; omega) rfl (by dsimp only; unfold maxLen; first | decide | omega) rfl (by unfold I64; dsimp only; omega))
          have Hc2 : Hid (costOpS (out ++ [⟨KK, v, ⟨#[]⟩, z⟩]) ≤ (k + 1) * 801) := Lib.hid (by rw [costOp_snoc]; have := Hco.out; have := Hv.out; have : costOp ⟨KK, v, ⟨#[]⟩, z⟩ = v.size + (⟨#[]⟩ : ByteArray).size := rfl; have : (⟨#[]⟩ : ByteArray).size = 0 := rfl; omega)
          have HPW := Lib.hid (HP2.out.below kW)
          have hbW : Below w1.heap.size w1 wS := below_after kW hb2
          have hzW : w1.heap.size ≤ wS.heap.size := hbW.size
          rw [Ho.out] at Hst
          go_wp2_with (at_builtin; go_must (refine wpList_append_partO (c := Cod.op) wS rfl _ _ 26 (by rfl) w1.heap.size 53 53 i0 (.agg #[.int .i64 0, .string ⟨#[]⟩, .string ⟨#[]⟩, .int .i64 0]) 48 Tryd.underlying26 hi hz0 hz1 hz2 rfl (by decide) (by decide) wS _ k out (by rfl) HPW.out hol (Below.refl _ _) ⟨KK, v, ⟨#[]⟩, z⟩ [] [.int .i64 KK, .string v, .string ⟨#[]⟩, .int .i64 z] rfl Hrd.out (Mine.nil _ _) wS.heap.size rfl (by rfl) (by simp [Value.oneCell']) Hroom.out hzW ?_))
          intro g' cap' w9 hp9 hb9
          have Hp9 : Hid (PartV Cod.op w9 w1.heap.size 53 (.slice (some ⟨g', 0, none⟩) (k + 1) cap') (k + 1) (out ++ [⟨KK, v, ⟨#[]⟩, z⟩])) := Lib.hid (Or.inr hp9)
          have hb10 : Below w1.heap.size w1 w9 := hbW.trans hb9
          have Hl9 : Hid ((out ++ [(⟨KK, v, ⟨#[]⟩, z⟩ : OpD)]).length = k + 1) := Lib.hid (by rw [List.length_append, hol]; rfl)
          clear hp9 hb9 HPW Hrd
          go_wp2
          go_roundw
          case rel => exact ⟨k + 1, out ++ [⟨KK, v, ⟨#[]⟩, z⟩], _, cap', rfl, by go_num, by omega, Hl9.out, Hst, Hc2, Hp9, Lib.hid (fun h => absurd h (by omega)), hb10⟩
          case measure => simp [intOf]; omega
        · have Ho : Hid (opIm xs = ⟨KK, v, ⟨#[]⟩, 0⟩) := Lib.hid (by rw [Hop.out, if_neg (fun h => hV h.2), if_neg (fun h => hBy h.2)])
          rw [show (decide (KK = 4) || decide (KK = 5)) = false from by simp; omega] at HB
          clear Hop hV hBy
          replace HV := Lib.hid HV
          replace HB := Lib.hid HB
          go_wp2_with fail
          refine (HV.out _).mono ?_
          rintro e w5 ⟨rfl, rfl⟩
          go_wp2_with fail
          refine (HB.out _).mono ?_
          rintro e w5 ⟨rfl, rfl⟩
          clear f0 d2
          have e0 := D.cell 0 (v := .int .i64 KK) rfl
          have e1 := D.cell 1 (v := .string v) rfl
          have e2 := D.cell 2 (v := .string ⟨#[]⟩) rfl
          have e3 := D.cell 3 (v := .int .i64 0) rfl
          have Hrd : Hid (Cod.op.rd wc (lst [.int .i64 KK, .string v, .string ⟨#[]⟩, .int .i64 0]) ⟨KK, v, ⟨#[]⟩, 0⟩ []) := Lib.hid (mk_op (x := ⟨KK, v, ⟨#[]⟩, 0⟩) rfl (by unfold I64; dsimp only; omega) rfl (by have := Hv.out; dsimp only; unfold maxLen; omega) rfl (by dsimp only; unfold maxLen; first | decide | omega) rfl (by unfold I64; dsimp only; omega))
          have Hc2 : Hid (costOpS (out ++ [⟨KK, v, ⟨#[]⟩, 0⟩]) ≤ (k + 1) * 801) := Lib.hid (by rw [costOp_snoc]; have := Hco.out; have := Hv.out; have : costOp ⟨KK, v, ⟨#[]⟩, 0⟩ = v.size + (⟨#[]⟩ : ByteArray).size := rfl; have : (⟨#[]⟩ : ByteArray).size = 0 := rfl; omega)
          have HPW := Lib.hid (HP2.out.below kW)
          have hbW : Below w1.heap.size w1 wc := below_after kW hb2
          have hzW : w1.heap.size ≤ wc.heap.size := hbW.size
          rw [Ho.out] at Hst
          go_wp2_with (at_builtin; go_must (refine wpList_append_partO (c := Cod.op) wc rfl _ _ 26 (by rfl) w1.heap.size 53 53 i0 (.agg #[.int .i64 0, .string ⟨#[]⟩, .string ⟨#[]⟩, .int .i64 0]) 48 Tryd.underlying26 hi hz0 hz1 hz2 rfl (by decide) (by decide) wc _ k out (by rfl) HPW.out hol (Below.refl _ _) ⟨KK, v, ⟨#[]⟩, 0⟩ [] [.int .i64 KK, .string v, .string ⟨#[]⟩, .int .i64 0] rfl Hrd.out (Mine.nil _ _) wc.heap.size rfl (by rfl) (by simp [Value.oneCell']) Hroom.out hzW ?_))
          intro g' cap' w9 hp9 hb9
          have Hp9 : Hid (PartV Cod.op w9 w1.heap.size 53 (.slice (some ⟨g', 0, none⟩) (k + 1) cap') (k + 1) (out ++ [⟨KK, v, ⟨#[]⟩, 0⟩])) := Lib.hid (Or.inr hp9)
          have hb10 : Below w1.heap.size w1 w9 := hbW.trans hb9
          have Hl9 : Hid ((out ++ [(⟨KK, v, ⟨#[]⟩, 0⟩ : OpD)]).length = k + 1) := Lib.hid (by rw [List.length_append, hol]; rfl)
          clear hp9 hb9 HPW Hrd
          go_wp2
          go_roundw
          case rel => exact ⟨k + 1, out ++ [⟨KK, v, ⟨#[]⟩, 0⟩], _, cap', rfl, by go_num, by omega, Hl9.out, Hst, Hc2, Hp9, Lib.hid (fun h => absurd h (by omega)), hb10⟩
          case measure => simp [intOf]; omega
    · have hltI : (n : Int) ≤ (k : Int) := by omega
      obtain rfl : k = n := by omega
      obtain ⟨I1, I2, I3⟩ := inv_end Hinv.out (fun l h1 h2 => (im_len Hne.out Hp.out l h1 h2).trans Hn.out)
      have hO : Own Cod.op wr w1.heap.size (.slice pa k ca) out := HP.out.own hol
      have HO := Lib.hid hO
      have hg := fun W (b : Below wr.heap.size wr W) => Hgood.out _ out (by omega) W (hO.below b).rd
      have ht := fun (hq : goodOB out = true) W (b : Below wr.heap.size wr W) => Htext.out _ out (by have := Hco.out; omega) hq W (below_after b bw) (hO.below b).rd
      have Hg := Lib.hid hg
      have Ht := Lib.hid ht
      clear hg ht hO Hinv Hco HP hol
      generalize goodOB out = q at *
      cases q
      · have HQ := Lib.hid (opsQ_le Hle.out (I2 rfl))
        clear I1 I2 I3
        go_wp2_with fail
        refine (Hg.out _ (Below.refl _ _)).mono ?_
        rintro e w2 ⟨rfl, k2⟩
        go_wp2
        go_ret2
        exact ro_no HQ.out (below_after k2 bw)
      · by_cases hq : opsS out = s
        · have HQ := Lib.hid (opsQ_le Hle.out (I1 rfl hq))
          rw [hq] at Ht
          clear I1 I2 I3 hq
          go_wp2_with fail
          refine (Hg.out _ (Below.refl _ _)).mono ?_
          rintro e w2 ⟨rfl, k2⟩
          go_wp2_with fail
          refine (Ht.out trivial _ k2).mono ?_
          rintro e w3 ⟨rfl, k3⟩
          go_wp2
          go_ret2
          exact ro_yes HQ.out (((HO.out.below (below_after k3 k2)).mono (by omega))) (below_after k3 (below_after k2 bw))
        · have HQ := Lib.hid (opsQ_le Hle.out (I3 rfl hq))
          have hq2 := str_ne hq
          clear I1 I2 I3 hq
          go_wp2_with fail
          refine (Hg.out _ (Below.refl _ _)).mono ?_
          rintro e w2 ⟨rfl, k2⟩
          go_wp2_with fail
          refine (Ht.out trivial _ k2).mono ?_
          rintro e w3 ⟨rfl, k3⟩
          go_wp2
          go_ret2
          exact ro_no HQ.out (below_after k3 (below_after k2 bw))

end Go.Proofs.YtpiheobpobclgaaDoor
