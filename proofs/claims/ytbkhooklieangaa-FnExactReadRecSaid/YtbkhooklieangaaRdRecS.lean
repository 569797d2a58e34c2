/- spec.ReadRec. Printed by mkrdrec.py. -/
import Derived.Test.YtbkhooklieangaaRdRec
namespace Go.Proofs.Ytbkhooklieangaa
open Go.RowKit

theorem grown_far {w W : World} {g : Nat} {p : Addr} (k : w.grownBy W (some g)) (hp : w.heap.size ≤ p.block) (u : Value) : w.grownBy (W.setCell p u) (some g) :=
  ⟨k.os, k.tape, k.output, by simpa [World.setCell] using k.size, fun i hi hne => (Below.heap_setCell W p u i (by rintro rfl; omega)).trans (k.block i hi hne)⟩

theorem wpList_append_partW {P : Program} {ops : Array Oper} {o : Oper} {rest : List Oper} {a : Act} {Q : Exit → Act → World → Prop} {α : Type} {c : Cod α} (Wp : World) (hgd : o.guard = none) (s x : Operand) (t : TypeId) (ho : o.op = .call { callee := .builtin .append, args := #[s, x], argTypes := #[t, t] })
    (base : Nat) (e e' : TypeId) (i : TypeInfo) (z : Value) (bytes : Nat) (ht : P.underlying t = some (.slice e)) (hi : P.info? e = some i) (hz : i.zero = some z)
    (hsize : i.size = c.size) (hby : i.bytes = bytes) (hzs : z.cells.size = c.size) (hsz : 0 < c.size) (hbp : 0 < bytes)
    (w0 : World) (v : Value) (n : Nat) (xs : List α) (hs : a.eval s = v) (hp : PartV c w0 base e v n xs) (hlen : xs.length = n) (k : Below w0.heap.size w0 Wp)
    (y : α) (f : List Nat) (cs : List Value) (hcl : cs.length = c.size) (hrd : c.rd Wp (lst cs) y f) (hm : Mine Wp w0.heap.size f)
    (H : Nat) (hH : Wp.heap.size = H) (hx : a.eval x = .slice (some ⟨H, 0, none⟩) 1 1) (h1 : ∀ u ∈ cs, u.oneCell' = true)
    (hbytes : (n + 1) * bytes ≤ room) (hbase : base ≤ w0.heap.size)
    (h : ∀ g cap w', Part c w' base e (.slice (some ⟨g, 0, none⟩) (n + 1) cap) (n + 1) (xs ++ [y]) → Below base Wp w' → wpList P ops Q rest (a.put o.dst (.slice (some ⟨g, 0, none⟩) (n + 1) cap)) w') :
    wpList P ops Q (o :: rest) a (Wp.alloc (.cells cs.toArray e')) := by
  refine wpList_plain hgd fun K hK' => ?_
  have := step_append_partK (ops := ops) (Q := Q) (K := K) (E := False) Wp hgd s x t ho base e e' i z bytes ht hi hz hsize hby hzs hsz hbp w0 v n xs hs hp hlen k y f cs hcl hrd hm H hH hx h1 hbytes hbase (fun g cap w' h1 h2 _ => hK' _ _ (h g cap w' h1 h2))
  rwa [if_pos (by simp [Region.wanted, hgd])] at this


set_option maxRecDepth 100000 in
set_option maxHeartbeats 6400000 in
/-- spec.ReadRec -/
theorem readRecS_any (s : ByteArray) (hs : s.size ≤ 1048576) (w : World) : Calls Try.prog 29 #[.string s] w (RdRec s w) := by
  obtain ⟨i0, hi, hy0, hy1, hy2⟩ := info_parts Try_infoR_write
  have Ho := Lib.hid (expOpenSealS_any s (by unfold maxLen; omega))
  have hBs : (openR s).1.size ≤ 1048576 := Nat.le_trans (openR_le s) hs
  obtain ⟨Rr, hRr⟩ : ∃ R, readRecR s = R := ⟨_, rfl⟩
  have HRr := Lib.hid hRr
  have HR0 : Hid ((openR s).2 = false → Rr = (zeroRec, false)) := Lib.hid (fun h => hRr ▸ readRecR_closed h)
  have HR1 : Hid ((openR s).2 = true → recO (openR s).1 = none → Rr = (zeroRec, false)) := Lib.hid (fun h k => hRr ▸ readRecR_none h k)
  have HR2 : Hid ((openR s).2 = true → ∀ x n, recO (openR s).1 = some (x, n) → (goodRB x && decide (recBB x = s)) = false → Rr = (zeroRec, false)) := Lib.hid (fun h x n k b => hRr ▸ readRecR_bad h k b)
  have HR3 : Hid ((openR s).2 = true → ∀ x n, recO (openR s).1 = some (x, n) → (goodRB x && decide (recBB x = s)) = true → Rr = (x, true)) := Lib.hid (fun h x n k b => hRr ▸ readRecR_good h k b)
  clear hRr
  generalize (openR s).1 = B at *
  generalize (openR s).2 = q at *
  have hsI : (s.size : Int) ≤ 1048576 := by omega
  cases q
  · replace HR0 := Lib.hid (HR0.out rfl)
    clear HR1 HR2 HR3
    go_enter Try.func29, Try.ntmps29
    go_wp2_with fail
    refine (Ho.out _).mono ?_
    rintro e w1 ⟨rfl, k1⟩
    have Z := (Blk.new w 58 #[.int .i64 0, .int .i64 0, .int .i64 0, .int .i64 0, .slice none 0 0, .slice none 0 0, .bool false]).below k1
    have bw : Below w.heap.size w w1 := below_after k1 (by (repeat (first | (with_reducible exact Below.refl _ _) | (with_reducible refine below_setCell ?_ (by first | (simp; done) | (simp; omega) | omega)) | (with_reducible refine below_alloc _ ?_) | (with_reducible refine below_drewN ?_ _) | (with_reducible assumption) | (with_reducible refine below_after (by assumption) ?_))))
    have z0 := Z.cell 0 (v := .int .i64 0) rfl
    have zf0 := Z.frozen 0
    have z1 := Z.cell 1 (v := .int .i64 0) rfl
    have zf1 := Z.frozen 1
    have z2 := Z.cell 2 (v := .int .i64 0) rfl
    have zf2 := Z.frozen 2
    have z3 := Z.cell 3 (v := .int .i64 0) rfl
    have zf3 := Z.frozen 3
    have z4 := Z.cell 4 (v := .slice none 0 0) rfl
    have zf4 := Z.frozen 4
    have z5 := Z.cell 5 (v := .slice none 0 0) rfl
    have zf5 := Z.frozen 5
    have z6 := Z.cell 6 (v := .bool false) rfl
    have zf6 := Z.frozen 6
    go_wp2
    refine bodyPost_ret (v := .tuple #[.agg #[.int .i64 0, .int .i64 0, .int .i64 0, .int .i64 0, .slice none 0 0, .slice none 0 0, .bool false], .bool false]) (by simp [results, Try.results29, go_sem, z0, zf0, z1, zf1, z2, zf2, z3, zf3, z4, zf4, z5, zf5, z6, zf6]) rfl ?_
    exact rdrec_zero (HRr.out.trans HR0.out) (by (repeat (first | (with_reducible exact Below.refl _ _) | (with_reducible refine below_setCell ?_ (by first | (simp; done) | (simp; omega) | omega)) | (with_reducible refine below_alloc _ ?_) | (with_reducible refine below_drewN ?_ _) | (with_reducible assumption) | (with_reducible refine below_after (by assumption) ?_))))
  · replace HR1 := Lib.hid (HR1.out rfl)
    replace HR2 := Lib.hid (HR2.out rfl)
    replace HR3 := Lib.hid (HR3.out rfl)
    clear HR0
    go_enter Try.func29, Try.ntmps29
    go_wp2_with fail
    refine (Ho.out _).mono ?_
    rintro e w1 ⟨rfl, k1⟩
    have Z := (Blk.new w 58 #[.int .i64 0, .int .i64 0, .int .i64 0, .int .i64 0, .slice none 0 0, .slice none 0 0, .bool false]).below k1
    have bw : Below w.heap.size w w1 := below_after k1 (by (repeat (first | (with_reducible exact Below.refl _ _) | (with_reducible refine below_setCell ?_ (by first | (simp; done) | (simp; omega) | omega)) | (with_reducible refine below_alloc _ ?_) | (with_reducible refine below_drewN ?_ _) | (with_reducible assumption) | (with_reducible refine below_after (by assumption) ?_))))
    clear k1 Ho
    go_upto_region 5 with fail
    obtain ⟨g, hg⟩ : ∃ g, w1.heap.size = g := ⟨_, rfl⟩
    generalize hw2 : World.alloc _ _ = w2
    have hsrc : SrcO w2 g B (some 0) := by rw [← hw2, ← hg]; exact srcO_some (src_new w1 B 0 100) (Nat.zero_le _)
    have hzg : w.heap.size ≠ g := by have := Z.lt; omega
    have hgl : w.heap.size ≤ g := by have := bw.size; omega
    have hg1 : g < w2.heap.size := hsrc.lt
    replace Z : Blk w2 w.heap.size 58 #[.int .i64 0, .int .i64 0, .int .i64 0, .int .i64 0, .slice none 0 0, .slice none 0 0, .bool false] := by rw [← hw2]; exact Z.alloc _
    replace bw : Below w.heap.size w w2 := by rw [← hw2]; exact below_alloc _ bw
    rw [hg]
    clear hw2 hg
    go_wp2_with fail
    refine (numS_o _ g B (some 0) hsrc hBs).mono ?_
    rintro e w2 ⟨n1, o1, rfl, hn1, g1, hsrc', k1⟩
    replace hsrc := hsrc'
    clear hsrc'
    replace Z := Z.grown k1 hzg
    replace bw := below_grown bw k1 hgl bw.size
    replace hg1 := Nat.lt_of_lt_of_le hg1 k1.size
    clear k1
    go_wp2_with fail
    refine (numS_o _ g B o1 hsrc hBs).mono ?_
    rintro e w3 ⟨n2, o2, rfl, hn2, g2, hsrc', k2⟩
    replace hsrc := hsrc'
    clear hsrc'
    replace Z := Z.grown k2 hzg
    replace bw := below_grown bw k2 hgl bw.size
    replace hg1 := Nat.lt_of_lt_of_le hg1 k2.size
    clear k2
    go_wp2_with fail
    refine (numS_o _ g B o2 hsrc hBs).mono ?_
    rintro e w4 ⟨n3, o3, rfl, hn3, g3, hsrc', k3⟩
    replace hsrc := hsrc'
    clear hsrc'
    replace Z := Z.grown k3 hzg
    replace bw := below_grown bw k3 hgl bw.size
    replace hg1 := Nat.lt_of_lt_of_le hg1 k3.size
    clear k3
    go_wp2_with fail
    refine (numS_o _ g B o3 hsrc hBs).mono ?_
    rintro e w5 ⟨n4, o4, rfl, hn4, g4, hsrc', k4⟩
    replace hsrc := hsrc'
    clear hsrc'
    replace Z := Z.grown k4 hzg
    replace bw := below_grown bw k4 hgl bw.size
    replace hg1 := Nat.lt_of_lt_of_le hg1 k4.size
    clear k4
    go_upto_region 6 with fail
    generalize hw6 : World.alloc _ _ = w6
    have C : Blk w6 w5.heap.size 58 #[.int .i64 (n1 : Int), .int .i64 (n2 : Int), .int .i64 (n3 : Int), .int .i64 (n4 : Int), .slice none 0 0, .slice none 0 0, .bool false] := by rw [← hw6]; exact Blk.new _ _ _
    replace Z : Blk w6 w.heap.size 58 #[.int .i64 0, .int .i64 0, .int .i64 0, .int .i64 0, .slice none 0 0, .slice none 0 0, .bool false] := by rw [← hw6]; exact Z.alloc _
    replace bw : Below w.heap.size w w6 := by rw [← hw6]; exact below_alloc _ bw
    replace hsrc : SrcO w6 g B o4 := by rw [← hw6]; exact hsrc.below (below_new _ _)
    have hCg : w5.heap.size ≠ g := by omega
    clear hw6
    go_wp2_with fail
    refine (one_o _ g B o4 hsrc hBs).mono ?_
    rintro e w7 ⟨xy, y, o5, rfl, hy, g5, hsrc', k5⟩
    replace hsrc := hsrc'
    clear hsrc'
    subst hy
    replace Z := Z.grown k5 hzg
    replace C := C.grown k5 hCg
    replace bw := below_grown bw k5 hgl bw.size
    have hC7 := C.lt
    have c6 := C.cell 6 (v := .bool false) rfl
    have cf6 := C.frozen 6
    clear k5
    go_upto_region 7 with fail
    generalize hw8 : World.setCell _ _ _ = w8
    clear c6 cf6
    replace C : Blk w8 w5.heap.size 58 #[.int .i64 (n1 : Int), .int .i64 (n2 : Int), .int .i64 (n3 : Int), .int .i64 (n4 : Int), .slice none 0 0, .slice none 0 0, .bool (xy == 1)] := by rw [← hw8]; exact C.set 6 (.bool (xy == 1))
    replace Z : Blk w8 w.heap.size 58 #[.int .i64 0, .int .i64 0, .int .i64 0, .int .i64 0, .slice none 0 0, .slice none 0 0, .bool false] := by rw [← hw8]; exact Z.other _ _ (by omega)
    replace bw : Below w.heap.size w w8 := by rw [← hw8]; exact below_setCell bw (by show w.heap.size ≤ w5.heap.size; omega)
    replace hsrc : SrcO w8 g B o5 := by rw [← hw8]; exact hsrc.of_block (Below.heap_setCell w7 ⟨w5.heap.size, 6, none⟩ _ g (by show g ≠ w5.heap.size; omega))
    have hCLO : w5.heap.size < w8.heap.size := C.lt
    clear hw8
    go_wp2_with fail
    refine (textsS_o _ g B o5 hsrc hBs).mono ?_
    rintro e w9 ⟨vr, rs, o6, rfl, hrs, g6, hsrc', k6⟩
    replace hsrc := hsrc'
    clear hsrc'
    replace Z := Z.grown k6 hzg
    replace C := C.grown k6 hCg
    replace bw := below_grown bw k6 hgl bw.size
    have hLM := k6.size
    have hglo : g < w8.heap.size := by omega
    have Hrs : Hid (o6 ≠ none → OwnIn Cod.str w9 w8.heap.size w9.heap.size vr rs) := Lib.hid (fun hne => by
      obtain ⟨st, rfl⟩ := Option.ne_none_iff_exists'.1 hne
      refine (own_strs ?_ hrs).within
      cases o5 with
      | none => cases Got.none_step (f := textsO B) rfl g6
      | some s5 => exact fun j hj => Nat.le_trans (textsO_end g6 hne j hj) (by unfold maxLen; omega))
    obtain ⟨pr, cr, rfl⟩ : ∃ pr cr, vr = .slice pr rs.length cr := by
      rcases own_forms hrs with ⟨h1, h2⟩ | ⟨g', cap, h1⟩
      · exact ⟨none, 0, by rw [h1, h2]⟩
      · exact ⟨_, cap, h1⟩
    clear k6 hrs
    have c4 := C.cell 4 (v := .slice none 0 0) rfl
    have cf4 := C.frozen 4
    go_upto_region 8 with fail
    generalize hw10 : World.setCell _ _ _ = w10
    clear c4 cf4
    replace C : Blk w10 w5.heap.size 58 #[.int .i64 (n1 : Int), .int .i64 (n2 : Int), .int .i64 (n3 : Int), .int .i64 (n4 : Int), .slice pr rs.length cr, .slice none 0 0, .bool (xy == 1)] := by rw [← hw10]; exact C.set 4 (.slice pr rs.length cr)
    replace Z : Blk w10 w.heap.size 58 #[.int .i64 0, .int .i64 0, .int .i64 0, .int .i64 0, .slice none 0 0, .slice none 0 0, .bool false] := by rw [← hw10]; exact Z.other _ _ (by omega)
    replace bw : Below w.heap.size w w10 := by rw [← hw10]; exact below_setCell bw (by show w.heap.size ≤ w5.heap.size; omega)
    replace hsrc : SrcO w10 g B o6 := by rw [← hw10]; exact hsrc.of_block (Below.heap_setCell w9 ⟨w5.heap.size, 4, none⟩ _ g (by show g ≠ w5.heap.size; omega))
    replace Hrs : Hid (o6 ≠ none → OwnIn Cod.str w10 w8.heap.size w9.heap.size (.slice pr rs.length cr) rs) := Lib.hid (fun h => by rw [← hw10]; exact (Hrs.out h).set (Or.inl hCLO))
    have hM : w9.heap.size ≤ w10.heap.size := by rw [← hw10]; simp
    clear hw10
    go_wp2_with fail
    refine (numS_o _ g B o6 hsrc hBs).mono ?_
    rintro e w11 ⟨m, o7, rfl, hm, g7, hsrc', k7⟩
    replace hsrc := hsrc'
    clear hsrc'
    replace Z := Z.grown k7 hzg
    replace C := C.grown k7 hCg
    replace bw := below_grown bw k7 hgl bw.size
    replace hM := Nat.le_trans hM k7.size
    replace Hrs := Lib.hid (fun h => (Hrs.out h).grown k7 hglo)
    clear k7
    go_wp2
    go_loopw [8] (fun i wr => ∃ (k d : Nat) (o : Option Nat) (l : List WriteD) (pa : Option Addr) (ca : Nat), i = .int .i64 (d : Int) ∧ k + d = m ∧ l.length = k ∧ Blk wr w.heap.size 58 #[.int .i64 0, .int .i64 0, .int .i64 0, .int .i64 0, .slice none 0 0, .slice none 0 0, .bool false] ∧ Blk wr w5.heap.size 58 #[.int .i64 (n1 : Int), .int .i64 (n2 : Int), .int .i64 (n3 : Int), .int .i64 (n4 : Int), .slice pr rs.length cr, .slice pa k ca, .bool (xy == 1)] ∧ SrcO wr g B o ∧ Hid (PartV Cod.write wr (w9.heap.size) 81 (.slice pa k ca) k l) ∧ Hid (o6 ≠ none → OwnIn Cod.str wr w8.heap.size w9.heap.size (.slice pr rs.length cr) rs) ∧ Hid (WrAt B m o7 k l o) ∧ Below w.heap.size w wr ∧ w9.heap.size ≤ wr.heap.size) (fun i _ => (intOf i).toNat)
    case atStart => exact ⟨0, m, o7, [], none, 0, rfl, by omega, rfl, Z, C, hsrc, Lib.hid (Or.inl ⟨none, rfl, rfl, rfl⟩), Hrs, Lib.hid (wat_start (fun st h => by subst h; obtain ⟨a, _, hst⟩ := hsrc; exact (hst st rfl).2)), bw, hM⟩
    case round =>
      clear Z C hsrc Hrs bw hM
      obtain ⟨k, d, o, l, pa, ca, rfl, hkd, hl, Z, C, hsrc, Hp, Hrs, Hwr, bw, hM⟩ := hrel
      have hbad := hsrc.bad
      have c0 := C.cell 0 (v := .int .i64 (n1 : Int)) rfl
      have cf0 := C.frozen 0
      have c1 := C.cell 1 (v := .int .i64 (n2 : Int)) rfl
      have cf1 := C.frozen 1
      have c2 := C.cell 2 (v := .int .i64 (n3 : Int)) rfl
      have cf2 := C.frozen 2
      have c3 := C.cell 3 (v := .int .i64 (n4 : Int)) rfl
      have cf3 := C.frozen 3
      have c4 := C.cell 4 (v := .slice pr rs.length cr) rfl
      have cf4 := C.frozen 4
      have c5 := C.cell 5 (v := .slice pa k ca) rfl
      have cf5 := C.frozen 5
      have c6 := C.cell 6 (v := .bool (xy == 1)) rfl
      have cf6 := C.frozen 6
      cases o with
      | none =>
        have hbad2 : wr.cell? ⟨g, 2, none⟩ = some (.bool true) := hbad
        clear hbad
        have g8 := wat_end Hwr.out (by first | exact Or.inl rfl | exact Or.inr (by omega))
        have GR := rec_got g1 g2 g3 g4 g5 g6 g7 g8
        have HR := Lib.hid (HR1.out GR)
        clear Hp GR g8 g1 g2 g3 g4 g5 g6 g7 HR1 HR2 HR3
        rcases Nat.eq_zero_or_pos d with h0 | h0
        · subst h0
          have z0 := Z.cell 0 (v := .int .i64 0) rfl
          have zf0 := Z.frozen 0
          have z1 := Z.cell 1 (v := .int .i64 0) rfl
          have zf1 := Z.frozen 1
          have z2 := Z.cell 2 (v := .int .i64 0) rfl
          have zf2 := Z.frozen 2
          have z3 := Z.cell 3 (v := .int .i64 0) rfl
          have zf3 := Z.frozen 3
          have z4 := Z.cell 4 (v := .slice none 0 0) rfl
          have zf4 := Z.frozen 4
          have z5 := Z.cell 5 (v := .slice none 0 0) rfl
          have zf5 := Z.frozen 5
          have z6 := Z.cell 6 (v := .bool false) rfl
          have zf6 := Z.frozen 6
          go_wp2
          refine bodyPost_ret (v := .tuple #[.agg #[.int .i64 0, .int .i64 0, .int .i64 0, .int .i64 0, .slice none 0 0, .slice none 0 0, .bool false], .bool false]) (by simp [results, Try.results29, go_sem, z0, zf0, z1, zf1, z2, zf2, z3, zf3, z4, zf4, z5, zf5, z6, zf6]) rfl ?_
          exact rdrec_zero (HRr.out.trans HR.out) (by (repeat (first | (with_reducible exact Below.refl _ _) | (with_reducible refine below_setCell ?_ (by first | (simp; done) | (simp; omega) | omega)) | (with_reducible refine below_alloc _ ?_) | (with_reducible refine below_drewN ?_ _) | (with_reducible assumption) | (with_reducible refine below_after (by assumption) ?_))))
        · have h0I : (0 : Int) < (d : Int) := by omega
          have z0 := Z.cell 0 (v := .int .i64 0) rfl
          have zf0 := Z.frozen 0
          have z1 := Z.cell 1 (v := .int .i64 0) rfl
          have zf1 := Z.frozen 1
          have z2 := Z.cell 2 (v := .int .i64 0) rfl
          have zf2 := Z.frozen 2
          have z3 := Z.cell 3 (v := .int .i64 0) rfl
          have zf3 := Z.frozen 3
          have z4 := Z.cell 4 (v := .slice none 0 0) rfl
          have zf4 := Z.frozen 4
          have z5 := Z.cell 5 (v := .slice none 0 0) rfl
          have zf5 := Z.frozen 5
          have z6 := Z.cell 6 (v := .bool false) rfl
          have zf6 := Z.frozen 6
          go_wp2
          refine bodyPost_ret (v := .tuple #[.agg #[.int .i64 0, .int .i64 0, .int .i64 0, .int .i64 0, .slice none 0 0, .slice none 0 0, .bool false], .bool false]) (by simp [results, Try.results29, go_sem, z0, zf0, z1, zf1, z2, zf2, z3, zf3, z4, zf4, z5, zf5, z6, zf6]) rfl ?_
          exact rdrec_zero (HRr.out.trans HR.out) (by (repeat (first | (with_reducible exact Below.refl _ _) | (with_reducible refine below_setCell ?_ (by first | (simp; done) | (simp; omega) | omega)) | (with_reducible refine below_alloc _ ?_) | (with_reducible refine below_drewN ?_ _) | (with_reducible assumption) | (with_reducible refine below_after (by assumption) ?_))))
      | some st =>
        have hbad2 : wr.cell? ⟨g, 2, none⟩ = some (.bool false) := hbad
        clear hbad
        rcases Nat.eq_zero_or_pos d with h0 | h0
        · subst h0
          obtain rfl : k = m := by omega
          have g8 := wat_end Hwr.out (by first | exact Or.inl rfl | exact Or.inr (by omega))
          have GR := rec_got g1 g2 g3 g4 g5 g6 g7 g8
          have hR : recO B = some (⟨(n1 : Int), (n2 : Int), (n3 : Int), (n4 : Int), rs, l, xy == 1⟩, st) := GR
          have hne7 : o7 ≠ none := Got.pos (f := writesO k B) (writesO_none k B) g8
          have hne6 : o6 ≠ none := by
            obtain ⟨s7, rfl⟩ := Option.ne_none_iff_exists'.1 hne7
            exact Got.pos (f := numO B) rfl g7
          have hrl : rs.length ≤ 1048576 := by
            obtain ⟨s6, e6⟩ := Option.ne_none_iff_exists'.1 hne6
            have hne5 : o5 ≠ none := by rw [e6] at g6; exact Got.pos (f := textsO B) rfl g6
            obtain ⟨s5, e5⟩ := Option.ne_none_iff_exists'.1 hne5
            rw [e5] at g6
            exact Nat.le_trans (textsO_len g6 hne6) (by decide)
          have hll : l.length ≤ 1048576 := by have h1 := Hwr.out.2.1; have h2 := Hwr.out.2.2; omega
          have oR := Hrs.out hne6
          have oW := Hp.out.own hl
          subst hl
          clear Hwr Hp Hrs GR g1 g2 g3 g4 g5 g6 g7 g8 hne7 hne6 HR1 hsrc
          have Hg := Lib.hid (fun (W : World) ra rb => l4Good_any ⟨(n1 : Int), (n2 : Int), (n3 : Int), (n4 : Int), rs, l, xy == 1⟩ hrl hll W (.slice pr rs.length cr) (.slice pa l.length ca) ra rb)
          dsimp only at Hg
          obtain ⟨qg, hqg⟩ : ∃ q, goodRB ⟨(n1 : Int), (n2 : Int), (n3 : Int), (n4 : Int), rs, l, xy == 1⟩ = q := ⟨_, rfl⟩
          rw [hqg] at Hg
          cases qg
          · have HR := Lib.hid (HR2.out _ _ hR (by rw [hqg]; rfl))
            clear HR2 HR3 hR hqg
            go_wp2_with fail
            refine (Hg.out _ oR.rd oW.rd).mono ?_
            rintro e wg ⟨rfl, kg⟩
            replace Z := Z.below kg
            replace C := C.below kg
            replace oR := oR.below kg
            replace oW := oW.below kg
            replace bw : Below w.heap.size w wg := below_after kg bw
            have hszwg := kg.size
            clear kg
            have z0 := Z.cell 0 (v := .int .i64 0) rfl
            have zf0 := Z.frozen 0
            have z1 := Z.cell 1 (v := .int .i64 0) rfl
            have zf1 := Z.frozen 1
            have z2 := Z.cell 2 (v := .int .i64 0) rfl
            have zf2 := Z.frozen 2
            have z3 := Z.cell 3 (v := .int .i64 0) rfl
            have zf3 := Z.frozen 3
            have z4 := Z.cell 4 (v := .slice none 0 0) rfl
            have zf4 := Z.frozen 4
            have z5 := Z.cell 5 (v := .slice none 0 0) rfl
            have zf5 := Z.frozen 5
            have z6 := Z.cell 6 (v := .bool false) rfl
            have zf6 := Z.frozen 6
            go_wp2
            refine bodyPost_ret (v := .tuple #[.agg #[.int .i64 0, .int .i64 0, .int .i64 0, .int .i64 0, .slice none 0 0, .slice none 0 0, .bool false], .bool false]) (by simp [results, Try.results29, go_sem, z0, zf0, z1, zf1, z2, zf2, z3, zf3, z4, zf4, z5, zf5, z6, zf6]) rfl ?_
            exact rdrec_zero (HRr.out.trans HR.out) (by (repeat (first | (with_reducible exact Below.refl _ _) | (with_reducible refine below_setCell ?_ (by first | (simp; done) | (simp; omega) | omega)) | (with_reducible refine below_alloc _ ?_) | (with_reducible refine below_drewN ?_ _) | (with_reducible assumption) | (with_reducible refine below_after (by assumption) ?_))))
          · have hbd := goodRB_bounds hqg
            have hco := goodRB_cost hqg
            unfold costRec at hco
            dsimp only at hbd hco
            have Hb := Lib.hid (fun (W : World) ra rb => l4Bytes_any n1 n2 n3 n4 (xy == 1) rs l pr pa cr ca (by omega) (by omega) (by omega) (by omega) (by omega) (by omega) W ra rb)
            have hbb : recBB ⟨(n1 : Int), (n2 : Int), (n3 : Int), (n4 : Int), rs, l, xy == 1⟩ = sealB (wrsB (headB n1 n2 n3 n4 (xy == 1) rs l.length) l) := by unfold recBB; simp only [Int.toNat_natCast]
            have I1 : I64 (n1 : Int) := by unfold I64; omega
            have I2 : I64 (n2 : Int) := by unfold I64; omega
            have I3 : I64 (n3 : Int) := by unfold I64; omega
            have I4 : I64 (n4 : Int) := by unfold I64; omega
            generalize sealB (wrsB (headB n1 n2 n3 n4 (xy == 1) rs l.length) l) = S at *
            by_cases hSs : S = s
            · subst hSs
              have HR := Lib.hid (HR3.out _ _ hR (by rw [hqg, hbb]; simp))
              clear HR2 HR3 hR hqg hbb hbd hco
              go_wp2_with fail
              refine (Hg.out _ oR.rd oW.rd).mono ?_
              rintro e wg ⟨rfl, kg⟩
              replace Z := Z.below kg
              replace C := C.below kg
              replace oR := oR.below kg
              replace oW := oW.below kg
              replace bw : Below w.heap.size w wg := below_after kg bw
              have hszwg := kg.size
              clear kg
              have e0 := C.cell 0 (v := .int .i64 (n1 : Int)) rfl
              have ff0 := C.frozen 0
              have e1 := C.cell 1 (v := .int .i64 (n2 : Int)) rfl
              have ff1 := C.frozen 1
              have e2 := C.cell 2 (v := .int .i64 (n3 : Int)) rfl
              have ff2 := C.frozen 2
              have e3 := C.cell 3 (v := .int .i64 (n4 : Int)) rfl
              have ff3 := C.frozen 3
              have e4 := C.cell 4 (v := .slice pr rs.length cr) rfl
              have ff4 := C.frozen 4
              have e5 := C.cell 5 (v := .slice pa l.length ca) rfl
              have ff5 := C.frozen 5
              have e6 := C.cell 6 (v := .bool (xy == 1)) rfl
              have ff6 := C.frozen 6
              go_wp2_with fail
              refine (Hb.out _ oR.rd oW.rd).mono ?_
              rintro e wh ⟨rfl, kh⟩
              replace Z := Z.below kh
              replace C := C.below kh
              replace oR := oR.below kh
              replace oW := oW.below kh
              replace bw : Below w.heap.size w wh := below_after kh bw
              have hszwh := kh.size
              clear kh
              have d0 := C.cell 0 (v := .int .i64 (n1 : Int)) rfl
              have dg0 := C.frozen 0
              have d1 := C.cell 1 (v := .int .i64 (n2 : Int)) rfl
              have dg1 := C.frozen 1
              have d2 := C.cell 2 (v := .int .i64 (n3 : Int)) rfl
              have dg2 := C.frozen 2
              have d3 := C.cell 3 (v := .int .i64 (n4 : Int)) rfl
              have dg3 := C.frozen 3
              have d4 := C.cell 4 (v := .slice pr rs.length cr) rfl
              have dg4 := C.frozen 4
              have d5 := C.cell 5 (v := .slice pa l.length ca) rfl
              have dg5 := C.frozen 5
              have d6 := C.cell 6 (v := .bool (xy == 1)) rfl
              have dg6 := C.frozen 6
              have z0 := Z.cell 0 (v := .int .i64 0) rfl
              have zf0 := Z.frozen 0
              have z1 := Z.cell 1 (v := .int .i64 0) rfl
              have zf1 := Z.frozen 1
              have z2 := Z.cell 2 (v := .int .i64 0) rfl
              have zf2 := Z.frozen 2
              have z3 := Z.cell 3 (v := .int .i64 0) rfl
              have zf3 := Z.frozen 3
              have z4 := Z.cell 4 (v := .slice none 0 0) rfl
              have zf4 := Z.frozen 4
              have z5 := Z.cell 5 (v := .slice none 0 0) rfl
              have zf5 := Z.frozen 5
              have z6 := Z.cell 6 (v := .bool false) rfl
              have zf6 := Z.frozen 6
              go_wp2
              refine bodyPost_ret (v := .tuple #[.agg #[.int .i64 (n1 : Int), .int .i64 (n2 : Int), .int .i64 (n3 : Int), .int .i64 (n4 : Int), .slice pr rs.length cr, .slice pa l.length ca, .bool (xy == 1)], .bool true]) (by simp [results, Try.results29, go_sem, z0, zf0, z1, zf1, z2, zf2, z3, zf3, z4, zf4, z5, zf5, z6, zf6]) rfl ?_
              refine ⟨⟨(n1 : Int), (n2 : Int), (n3 : Int), (n4 : Int), rs, l, xy == 1⟩, true, pr, cr, pa, ca, HRr.out.trans HR.out, rfl, ?_, by (repeat (first | (with_reducible exact Below.refl _ _) | (with_reducible refine below_setCell ?_ (by first | (simp; done) | (simp; omega) | omega)) | (with_reducible refine below_alloc _ ?_) | (with_reducible refine below_drewN ?_ _) | (with_reducible assumption) | (with_reducible refine below_after (by assumption) ?_)))⟩
              refine (rown_rec (mid := w9.heap.size) I1 I2 I3 I4 (oR.keepB (B := w.heap.size + 1) ?_ ?_) (oW.keep (B := w.heap.size + 1) ?_ ?_) (by omega)).mono (by omega)
              · omega
              · (repeat (first | (with_reducible exact Keep.refl _ _) | (with_reducible refine keep_set ?_ (by first | (simp; done) | (simp; omega) | omega)) | (with_reducible refine keep_alloc _ ?_) | (with_reducible refine keep_drewN ?_ _) | (with_reducible assumption) | (with_reducible refine keep_below (by assumption) ?_)))
              · omega
              · (repeat (first | (with_reducible exact Keep.refl _ _) | (with_reducible refine keep_set ?_ (by first | (simp; done) | (simp; omega) | omega)) | (with_reducible refine keep_alloc _ ?_) | (with_reducible refine keep_drewN ?_ _) | (with_reducible assumption) | (with_reducible refine keep_below (by assumption) ?_)))
            · have HR := Lib.hid (HR2.out _ _ hR (by rw [hqg, hbb]; simp [hSs]))
              have hne := str_ne hSs
              clear HR2 HR3 hR hqg hbb hbd hco hSs
              go_wp2_with fail
              refine (Hg.out _ oR.rd oW.rd).mono ?_
              rintro e wg ⟨rfl, kg⟩
              replace Z := Z.below kg
              replace C := C.below kg
              replace oR := oR.below kg
              replace oW := oW.below kg
              replace bw : Below w.heap.size w wg := below_after kg bw
              have hszwg := kg.size
              clear kg
              have e0 := C.cell 0 (v := .int .i64 (n1 : Int)) rfl
              have ff0 := C.frozen 0
              have e1 := C.cell 1 (v := .int .i64 (n2 : Int)) rfl
              have ff1 := C.frozen 1
              have e2 := C.cell 2 (v := .int .i64 (n3 : Int)) rfl
              have ff2 := C.frozen 2
              have e3 := C.cell 3 (v := .int .i64 (n4 : Int)) rfl
              have ff3 := C.frozen 3
              have e4 := C.cell 4 (v := .slice pr rs.length cr) rfl
              have ff4 := C.frozen 4
              have e5 := C.cell 5 (v := .slice pa l.length ca) rfl
              have ff5 := C.frozen 5
              have e6 := C.cell 6 (v := .bool (xy == 1)) rfl
              have ff6 := C.frozen 6
              go_wp2_with fail
              refine (Hb.out _ oR.rd oW.rd).mono ?_
              rintro e wh ⟨rfl, kh⟩
              replace Z := Z.below kh
              replace C := C.below kh
              replace oR := oR.below kh
              replace oW := oW.below kh
              replace bw : Below w.heap.size w wh := below_after kh bw
              have hszwh := kh.size
              clear kh
              have z0 := Z.cell 0 (v := .int .i64 0) rfl
              have zf0 := Z.frozen 0
              have z1 := Z.cell 1 (v := .int .i64 0) rfl
              have zf1 := Z.frozen 1
              have z2 := Z.cell 2 (v := .int .i64 0) rfl
              have zf2 := Z.frozen 2
              have z3 := Z.cell 3 (v := .int .i64 0) rfl
              have zf3 := Z.frozen 3
              have z4 := Z.cell 4 (v := .slice none 0 0) rfl
              have zf4 := Z.frozen 4
              have z5 := Z.cell 5 (v := .slice none 0 0) rfl
              have zf5 := Z.frozen 5
              have z6 := Z.cell 6 (v := .bool false) rfl
              have zf6 := Z.frozen 6
              go_wp2
              refine bodyPost_ret (v := .tuple #[.agg #[.int .i64 0, .int .i64 0, .int .i64 0, .int .i64 0, .slice none 0 0, .slice none 0 0, .bool false], .bool false]) (by simp [results, Try.results29, go_sem, z0, zf0, z1, zf1, z2, zf2, z3, zf3, z4, zf4, z5, zf5, z6, zf6]) rfl ?_
              exact rdrec_zero (HRr.out.trans HR.out) (by (repeat (first | (with_reducible exact Below.refl _ _) | (with_reducible refine below_setCell ?_ (by first | (simp; done) | (simp; omega) | omega)) | (with_reducible refine below_alloc _ ?_) | (with_reducible refine below_drewN ?_ _) | (with_reducible assumption) | (with_reducible refine below_after (by assumption) ?_))))
        · have h0I : (0 : Int) < (d : Int) := by omega
          have Hroom : Hid ((k + 1) * 40 ≤ room) := Lib.hid (by have h1 := Hwr.out.2.1; have h2 := Hwr.out.2.2; unfold room; omega)
          have Hl := Lib.hid hl
          have hkm : k < m := by omega
          clear HR1 HR2 HR3 HRr hl
          have kk : wr.grownBy wr (some g) := World.grownBy.refl _ _
          go_wp2_with fail
          refine (textS_o _ g B (some st) hsrc hBs).mono ?_
          rintro e wa ⟨a, p1, rfl, ha60, q1, hsrc', ka⟩
          replace hsrc := hsrc'
          clear hsrc' c0 c1 c2 c3 c4 c5 c6 cf0 cf1 cf2 cf3 cf4 cf5 cf6 hbad2
          replace Z := Z.grown ka hzg
          replace C := C.grown ka hCg
          replace Hrs := Lib.hid (fun h => (Hrs.out h).grown ka hglo)
          replace bw := below_grown bw ka hgl bw.size
          replace kk := grown_trans kk ka
          clear ka
          have hza : wr.heap.size ≤ wa.heap.size := kk.size
          have hMa : w9.heap.size ≤ wa.heap.size := by omega
          go_upto_region 12 with fail
          generalize hwb : World.alloc _ _ = wb
          have D : Blk wb wa.heap.size 81 #[.string a, .string ⟨#[]⟩, .bool false] := by rw [← hwb]; exact Blk.new _ _ _
          replace Z : Blk wb w.heap.size 58 #[.int .i64 0, .int .i64 0, .int .i64 0, .int .i64 0, .slice none 0 0, .slice none 0 0, .bool false] := by rw [← hwb]; exact Z.alloc _
          replace C : Blk wb w5.heap.size 58 #[.int .i64 (n1 : Int), .int .i64 (n2 : Int), .int .i64 (n3 : Int), .int .i64 (n4 : Int), .slice pr rs.length cr, .slice pa k ca, .bool (xy == 1)] := by rw [← hwb]; exact C.alloc _
          replace hsrc : SrcO wb g B p1 := by rw [← hwb]; exact hsrc.below (below_new _ _)
          replace Hrs : Hid (o6 ≠ none → OwnIn Cod.str wb w8.heap.size w9.heap.size (.slice pr rs.length cr) rs) := Lib.hid (fun h => by rw [← hwb]; exact (Hrs.out h).below (below_new _ _))
          replace bw : Below w.heap.size w wb := by rw [← hwb]; exact below_alloc _ bw
          replace kk : wr.grownBy wb (some g) := by rw [← hwb]; exact grown_below kk (below_new _ _)
          have hDg : wa.heap.size ≠ g := by omega
          clear hwb
          go_wp2_with fail
          refine (one_o _ g B p1 hsrc hBs).mono ?_
          rintro e wc ⟨x2, y2, p2, rfl, hy2', q2, hsrc', kb⟩
          replace hsrc := hsrc'
          clear hsrc'
          subst hy2'
          replace Z := Z.grown kb hzg
          replace C := C.grown kb hCg
          replace D := D.grown kb hDg
          replace Hrs := Lib.hid (fun h => (Hrs.out h).grown kb hglo)
          replace bw := below_grown bw kb hgl bw.size
          replace kk := grown_trans kk kb
          clear kb
          have df0 := D.frozen 2
          have d2 := D.cell 2 (v := .bool false) rfl
          go_upto_region 13 with fail
          clear df0 d2
          generalize hws : World.setCell _ _ _ = wd
          replace D := by have := D.set 2 (.bool (x2 == 1)); rw [hws] at this; exact this
          replace Z : Blk wd w.heap.size 58 #[.int .i64 0, .int .i64 0, .int .i64 0, .int .i64 0, .slice none 0 0, .slice none 0 0, .bool false] := by rw [← hws]; exact Z.other _ _ (by omega)
          replace C : Blk wd w5.heap.size 58 #[.int .i64 (n1 : Int), .int .i64 (n2 : Int), .int .i64 (n3 : Int), .int .i64 (n4 : Int), .slice pr rs.length cr, .slice pa k ca, .bool (xy == 1)] := by rw [← hws]; exact C.other _ _ (by omega)
          replace hsrc := by have := hsrc.of_block (Below.heap_setCell wc ⟨wa.heap.size, 2, none⟩ (.bool (x2 == 1)) g (by show g ≠ wa.heap.size; omega)); rw [hws] at this; exact this
          replace Hrs : Hid (o6 ≠ none → OwnIn Cod.str wd w8.heap.size w9.heap.size (.slice pr rs.length cr) rs) := Lib.hid (fun h => by rw [← hws]; exact (Hrs.out h).set (Or.inr (by omega)))
          replace bw : Below w.heap.size w wd := by rw [← hws]; exact below_setCell bw (by show w.heap.size ≤ wa.heap.size; omega)
          replace kk : wr.grownBy wd (some g) := by rw [← hws]; exact grown_far kk (by show wr.heap.size ≤ wa.heap.size; omega) _
          clear hws
          go_wp2_with fail
          refine (textS_o _ g B p2 hsrc hBs).mono ?_
          rintro e we ⟨b, p3, rfl, hb60, q3, hsrc', kc⟩
          replace hsrc := hsrc'
          clear hsrc'
          replace Z := Z.grown kc hzg
          replace C := C.grown kc hCg
          replace D := D.grown kc hDg
          replace Hrs := Lib.hid (fun h => (Hrs.out h).grown kc hglo)
          replace bw := below_grown bw kc hgl bw.size
          replace kk := grown_trans kk kc
          clear kc
          have df0 := D.frozen 1
          have d2 := D.cell 1 (v := .string ⟨#[]⟩) rfl
          go_upto_region 14 with fail
          clear df0 d2
          generalize hws : World.setCell _ _ _ = wf
          replace D := by have := D.set 1 (.string b); rw [hws] at this; exact this
          replace Z : Blk wf w.heap.size 58 #[.int .i64 0, .int .i64 0, .int .i64 0, .int .i64 0, .slice none 0 0, .slice none 0 0, .bool false] := by rw [← hws]; exact Z.other _ _ (by omega)
          replace C : Blk wf w5.heap.size 58 #[.int .i64 (n1 : Int), .int .i64 (n2 : Int), .int .i64 (n3 : Int), .int .i64 (n4 : Int), .slice pr rs.length cr, .slice pa k ca, .bool (xy == 1)] := by rw [← hws]; exact C.other _ _ (by omega)
          replace hsrc := by have := hsrc.of_block (Below.heap_setCell we ⟨wa.heap.size, 1, none⟩ (.string b) g (by show g ≠ wa.heap.size; omega)); rw [hws] at this; exact this
          replace Hrs : Hid (o6 ≠ none → OwnIn Cod.str wf w8.heap.size w9.heap.size (.slice pr rs.length cr) rs) := Lib.hid (fun h => by rw [← hws]; exact (Hrs.out h).set (Or.inr (by omega)))
          replace bw : Below w.heap.size w wf := by rw [← hws]; exact below_setCell bw (by show w.heap.size ≤ wa.heap.size; omega)
          replace kk : wr.grownBy wf (some g) := by rw [← hws]; exact grown_far kk (by show wr.heap.size ≤ wa.heap.size; omega) _
          clear hws
          have Hp2 := Lib.hid (Hp.out.keep (grown_keep kk (show g < w9.heap.size by omega)))
          have Hx : Hid (Cod.write.rd wf (lst [.string a, .string b, .bool (x2 == 1)]) ⟨a, b, x2 == 1⟩ []) := Lib.hid (mk_write (x := ⟨a, b, x2 == 1⟩) rfl (Nat.le_trans ha60 (by decide)) rfl (Nat.le_trans hb60 (by decide)) rfl)
          have Hwr2 := Lib.hid (wat_step Hwr.out hkm q1 q2 q3)
          have e0 := D.cell 0 (v := .string a) rfl
          have e1 := D.cell 1 (v := .string b) rfl
          have e2 := D.cell 2 (v := .bool (x2 == 1)) rfl
          have c5 := C.cell 5 (v := .slice pa k ca) rfl
          have hMf : w9.heap.size ≤ wf.heap.size := by have := kk.size; omega
          clear Hp
          go_wp2_with (at_builtin; go_must (refine wpList_append_partW (c := Cod.write) wf rfl _ _ 40 (by rfl) w9.heap.size 81 81 i0 (.agg #[.string ⟨#[]⟩, .string ⟨#[]⟩, .bool false]) 40 Try.underlying40 hi hy0 hy1 hy2 rfl (by decide) (by decide) wf (.slice pa k ca) k l (by simp [Act.eval, Act.put]) Hp2.out Hl.out (Below.refl _ _) ⟨a, b, x2 == 1⟩ [] [.string a, .string b, .bool (x2 == 1)] rfl Hx.out (Mine.nil _ _) wf.heap.size rfl (by simp [Act.eval, Act.put]) (by simp [Value.oneCell']) Hroom.out hMf ?_))
          intro g' cap' w4 hp4 hb4
          have Hp4 := Lib.hid hp4
          have hCM : w5.heap.size < w9.heap.size := by omega
          have Z4 := Z.belowB hb4 (by omega)
          have C4 := C.belowB hb4 hCM
          have hsrc4 := hsrc.of_block (hb4.block g (by omega))
          have Hrs4 := Lib.hid (fun h => ((Hrs.out h).belowB hb4 (Nat.le_refl _)).set (b := w5.heap.size) (i := 5) (u := .slice (some ⟨g', 0, none⟩) (k + 1) cap') (Or.inl hCLO))
          have bw4 : Below w.heap.size w w4 := bw.trans (hb4.mono (by omega))
          have a5 := C4.cell 5 (v := .slice pa k ca) rfl
          have f5 := C4.frozen 5
          have z4 : w9.heap.size ≤ w4.heap.size := Nat.le_trans hMf hb4.size
          clear hp4 Hp2 Hrs Z C hsrc bw q1 q2 q3 e0 e1 e2 c5 D
          have C5 : Blk (w4.setCell ⟨w5.heap.size, 5, none⟩ (.slice (some ⟨g', 0, none⟩) (k + 1) cap')) w5.heap.size 58 #[.int .i64 (n1 : Int), .int .i64 (n2 : Int), .int .i64 (n3 : Int), .int .i64 (n4 : Int), .slice pr rs.length cr, .slice (some ⟨g', 0, none⟩) (k + 1) cap', .bool (xy == 1)] := C4.set 5 (.slice (some ⟨g', 0, none⟩) (k + 1) cap')
          have Z5 := Z4.other (b := w5.heap.size) 5 (.slice (some ⟨g', 0, none⟩) (k + 1) cap') (by omega)
          have hsrc5 := hsrc4.of_block (Below.heap_setCell w4 ⟨w5.heap.size, 5, none⟩ (.slice (some ⟨g', 0, none⟩) (k + 1) cap') g (by show g ≠ w5.heap.size; omega))
          have Hp5 : Hid (PartV Cod.write (w4.setCell ⟨w5.heap.size, 5, none⟩ (.slice (some ⟨g', 0, none⟩) (k + 1) cap')) w9.heap.size 81 (.slice (some ⟨g', 0, none⟩) (k + 1) cap') (k + 1) (l ++ [⟨a, b, x2 == 1⟩])) := Lib.hid (PartV.keep (Or.inr Hp4.out) (keep_set (Keep.refl _ _) hCM))
          have bw5 := below_setCell (p := ⟨w5.heap.size, 5, none⟩) (u := .slice (some ⟨g', 0, none⟩) (k + 1) cap') bw4 (by show w.heap.size ≤ w5.heap.size; omega)
          have Hl5 : Hid ((l ++ [(⟨a, b, x2 == 1⟩ : WriteD)]).length = k + 1) := Lib.hid (by rw [List.length_append, Hl.out]; rfl)
          clear Z4 C4 hsrc4 Hp4 bw4
          go_wp2
          go_roundw
          case rel => exact ⟨k + 1, d - 1, p3, _, some ⟨g', 0, none⟩, cap', congrArg (Value.int .i64) (by omega), by omega, Hl5.out, Z5, C5, hsrc5, Hp5, Hrs4, Hwr2, bw5, by simp; exact z4⟩
          case measure => simp [intOf]; omega


end Go.Proofs.Ytbkhooklieangaa
