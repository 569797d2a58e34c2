/- slices.DeleteFunc at the writes that are gone; impl.putRows, impl.PutRows. -/
import Derived.Test.YtkcidneefdaaiaaPutWI
import Derived.Test.YtkcidneefdaaiaaPartPre
import Derived.Test.YtkcidneefdaaiaaRowd
namespace Go.Proofs.Ytkcidneefdaaiaa
open Go.RowKit

/-- What the loop of DeleteFunc keeps. -/
structure DInv (l L : List WriteD) (i j : Nat) : Prop where
  len : L.length = l.length
  lt : i < j
  head : L.take i = (l.take j).filter notGone
  rest : L.drop j = l.drop j

theorem notGone_of {x : WriteD} (h : goneB x = false) : notGone x = true := by unfold notGone; unfold goneB at h; rw [h]; rfl
theorem gone_of {x : WriteD} (h : goneB x = true) : notGone x = false := by unfold notGone; unfold goneB at h; rw [h]; rfl
theorem dinv_start {l : List WriteD} {k : Nat} (hk : k < l.length) (h1 : ∀ j (h : j < l.length), j < k → goneB l[j] = false) (h2 : goneB l[k] = true) : DInv l l k (k + 1) := by
  refine ⟨rfl, Nat.lt_succ_self _, ?_, rfl⟩
  rw [List.take_succ_eq_append_getElem hk, List.filter_append, List.filter_cons, gone_of h2]
  simp only [Bool.false_eq_true, if_false, List.filter_nil, List.append_nil]
  refine (List.filter_eq_self.2 fun x hx => ?_).symm
  obtain ⟨j, hj, rfl⟩ := List.getElem_of_mem hx
  rw [List.length_take] at hj
  rw [List.getElem_take]
  exact notGone_of (h1 j (by omega) (by omega))
theorem dinv_at {l L : List WriteD} {i j : Nat} (h : DInv l L i j) (hj : j < L.length) : L[j] = l[j]'(by rw [← h.len]; exact hj) := by
  have e := congrArg (fun q => q[0]?) h.rest
  have hj2 : j < l.length := by rw [← h.len]; exact hj
  simp only [List.getElem?_drop, Nat.add_zero, List.getElem?_eq_getElem hj, List.getElem?_eq_getElem hj2, Option.some.injEq] at e
  exact e
theorem dinv_rest {l L : List WriteD} {i j : Nat} (h : DInv l L i j) : L.drop (j + 1) = l.drop (j + 1) := by
  have e := congrArg (fun q => q.drop 1) h.rest
  simpa [List.drop_drop] using e
theorem dinv_gone {l L : List WriteD} {i j : Nat} (h : DInv l L i j) (hj : j < L.length) (hg : goneB L[j] = true) : DInv l L i (j + 1) := by
  refine ⟨h.len, Nat.lt_succ_of_lt h.lt, ?_, dinv_rest h⟩
  rw [h.head, List.take_succ_eq_append_getElem (by rw [← h.len]; exact hj), List.filter_append, List.filter_cons, gone_of (by rw [← dinv_at h hj]; exact hg)]
  simp
theorem dinv_keep {l L : List WriteD} {i j : Nat} (h : DInv l L i j) (hj : j < L.length) (hg : goneB L[j] = false) : DInv l (L.set i L[j]) (i + 1) (j + 1) := by
  have hlt := h.lt
  refine ⟨by rw [List.length_set]; exact h.len, Nat.succ_lt_succ hlt, ?_, ?_⟩
  · rw [List.take_succ_eq_append_getElem (by rw [List.length_set]; omega), List.getElem_set_self, List.take_set_of_le (Nat.le_refl _), h.head, List.take_succ_eq_append_getElem (by rw [← h.len]; exact hj), List.filter_append, List.filter_cons, notGone_of (by rw [← dinv_at h hj]; exact hg), dinv_at h hj]
    simp
  · rw [List.drop_set_of_lt (by omega), dinv_rest h]
theorem dinv_end {l L : List WriteD} {i j : Nat} (h : DInv l L i j) (hj : j = l.length) : L.take i = l.filter notGone := by
  rw [h.head, hj, List.take_length]
theorem none_gone {l : List WriteD} (h : l.any goneB = false) : l.filter notGone = l :=
  List.filter_eq_self.2 fun x hx => notGone_of (by have := List.any_eq_false.1 h x hx; simpa using this)

theorem PartC.atW {w : World} {base : Nat} {e : TypeId} {g n cap : Nat} {L : List WriteD} {cells : List Value} (h : PartC Cod.write w base e (.slice (some ⟨g, 0, none⟩) n cap) n L cells) (hn : L.length = n) {j : Nat} (hj : j < L.length) :
    w.cell? ⟨g, j * 3, none⟩ = some (.string L[j].Key) ∧ w.cell? ⟨g, j * 3 + 1, none⟩ = some (.string L[j].Val) ∧ w.cell? ⟨g, j * 3 + 2, none⟩ = some (.bool L[j].Gone) ∧ L[j].Key.size ≤ maxLen ∧ L[j].Val.size ≤ maxLen := by
  obtain ⟨p, cap', e1, _, _, r⟩ := (h.own hn).rd.form
  obtain ⟨g', o, e2, _, hc⟩ := r (by omega)
  injection e1 with e1
  rw [e2] at e1
  injection e1 with e1
  injection e1 with e3 e4
  subst e3 e4
  have := at_write (hc j hj)
  rw [show 0 + j * Cod.write.size = j * 3 from by rw [Nat.zero_add]; rfl] at this
  exact this

def DelPost (l : List WriteD) (base : Nat) (w : World) (e : Ending) (w' : World) : Prop := ∃ v' cells, e = .returned v' ∧ PartC Cod.write w' base 45 v' (l.filter notGone).length (l.filter notGone) cells ∧ Below base w w'

set_option maxRecDepth 100000 in
set_option maxHeartbeats 6400000 in
/-- slices.DeleteFunc -/
theorem deleteW_any (v : Value) (l : List WriteD) (cells : List Value) (base : Nat) (hl : l.length ≤ 1048576) (w : World) (hbase : base ≤ w.heap.size) (hP : PartC Cod.write w base 45 v l.length l cells) :
    Calls Try.prog 50 #[v, .func (.func 51) #[] #[]] w (DelPost l base w) := by
  have Hi := Lib.hid (prCf_idx v l hl w (hP.own rfl).rd)
  have HP := Lib.hid hP
  have hcase : (l = [] ∧ v = .slice none 0 0) ∨ ∃ g cap, v = .slice (some ⟨g, 0, none⟩) l.length cap := by
    rcases own_forms hP.choose_spec.1 with ⟨h1, h2⟩ | ⟨g, cap, h1⟩
    · exact Or.inl ⟨List.eq_nil_of_length_eq_zero h2, h1⟩
    · exact Or.inr ⟨g, cap, h1⟩
  have hlI : (l.length : Int) ≤ 1048576 := by omega
  clear hP
  go_enter Try.func50, Try.ntmps50
  go_wp2_with fail
  refine Hi.out.mono ?_
  rintro e w1 ⟨hidx, k1⟩
  have HP1 := Lib.hid (HP.out.below k1)
  clear Hi HP
  rcases hidx with ⟨k0, hk0, rfl, hless, hgone⟩ | ⟨rfl, hany⟩
  rotate_left
  · have Hn := Lib.hid (none_gone hany)
    clear hany hcase
    go_wp2
    go_ret
    refine ⟨v, cells, rfl, ?_, k1.mono hbase⟩
    rw [Hn.out]
    exact HP1.out
  · rcases hcase with ⟨h0, _⟩ | ⟨g, cap, rfl⟩
    · subst h0
      simp at hk0
    obtain ⟨_, cur, hgb, hnc, hcm, hcs, hglo, _, _⟩ := own_some HP1.out.choose_spec.1
    have Hd := Lib.hid (dinv_start hk0 hless hgone)
    have hglt : g < w1.heap.size := (Array.getElem?_eq_some_iff.1 hgb).1
    have hk1 : k0 + 1 ≤ l.length := hk0
    obtain ⟨n, hn⟩ : ∃ n, l.length = n := ⟨_, rfl⟩
    have Hn := Lib.hid hn
    rw [hn] at HP1 hnc hlI hk1 ⊢
    have hncI : (n : Int) ≤ (cap : Int) := by omega
    have hcapI : (cap : Int) ≤ 9223372036854775807 := by unfold maxLen at hcm; omega
    have hb1 : Below base w w1 := k1.mono hbase
    have hk0I : (k0 : Int) ≤ 1048576 := by omega
    have hne1 : ((k0 : Int) == -1) = false := by rw [beq_eq_false_iff_ne]; omega
    clear hless hgone hn hgb hcs k1 hk0
    go_wp2
    go_loopw [5, 6] (fun a b wr => ∃ (i j : Nat) (L : List WriteD) (cs : List Value), a = .int .i64 (i : Int) ∧ b = .int .i64 (j : Int) ∧ j ≤ n ∧ i < j ∧ Hid (DInv l L i j) ∧ Hid (PartC Cod.write wr base 45 (.slice (some ⟨g, 0, none⟩) n cap) n L cs) ∧ g < wr.heap.size ∧ Below base w wr) (fun _ b _ => n - (intOf b).toNat)
    case atStart => exact ⟨k0, k0 + 1, l, cells, rfl, by go_num, hk1, Nat.lt_succ_self _, Hd, HP1, hglt, hb1⟩
    case round =>
      obtain ⟨i, j, L, cs, rfl, rfl, hj, hij, Hv, Hp, hgl, hb⟩ := hrel
      clear Hd HP1 hglt hb1
      have hLn : L.length = n := Hv.out.len.trans Hn.out
      by_cases hlt : j < n
      · have hjI : (j : Int) < (n : Int) := by omega
        have hjL : j < L.length := by omega
        have hiI : (i : Int) < (n : Int) := by omega
        obtain ⟨d0, d1, d2, z0, z1⟩ := Hp.out.atW hLn hjL
        have hg1 := Lib.hid (dinv_gone Hv.out hjL)
        have hk1 := Lib.hid (dinv_keep Hv.out hjL)
        have Hset : Hid (∀ W : World, Below wr.heap.size wr W → PartC Cod.write (setMany W g (i * 3) [.string L[j].Key, .string L[j].Val, .bool L[j].Gone]) base 45 (.slice (some ⟨g, 0, none⟩) n cap) n (L.set i L[j]) (setList cs (i * Cod.write.size) [.string L[j].Key, .string L[j].Val, .bool L[j].Gone])) := Lib.hid fun W k =>
          ((Hp.out.below k).setAt (i := i) (cs := [.string L[j].Key, .string L[j].Val, .bool L[j].Gone]) (x := L[j]) (by omega) rfl (mk_write rfl z0 rfl z1 rfl)).1
        generalize L[j] = x at *
        have Hc := Lib.hid (prCf_closure x)
        generalize goneB x = b at *
        have Hown := Lib.hid Hp.out.choose_spec.1
        have hcl : cs.length = n * 3 := Hown.out.1
        cases b
        · have Hk := Lib.hid (hk1.out (by first | rfl | trivial))
          clear hg1 hk1
          go_wp2_with fail
          refine (Hc.out _).mono ?_
          rintro e w3 ⟨rfl, k3⟩
          have k4 : Below wr.heap.size wr w3 := below_after k3 (by (repeat (first | (with_reducible exact Below.refl _ _) | (with_reducible refine below_setCell ?_ (by first | (simp; done) | (simp; omega) | omega)) | (with_reducible refine below_alloc _ ?_) | (with_reducible refine below_drewN ?_ _) | (with_reducible assumption) | (with_reducible refine below_after (by assumption) ?_))))
          have hq : wr.heap.size < w3.heap.size := by have := k3.size; simp at this; omega
          have Xb : Blk w3 wr.heap.size 45 #[.string x.Key, .string x.Val, .bool x.Gone] := (Blk.new wr 45 #[.string x.Key, .string x.Val, .bool x.Gone]).below k3
          have x0 := Xb.cell 0 (v := .string x.Key) rfl
          have x1 := Xb.cell 1 (v := .string x.Val) rfl
          have x2 := Xb.cell 2 (v := .bool x.Gone) rfl
          have o4 := own_below Hown.out k4
          have s0 : ∃ u, w3.cell? ⟨g, i * 3, none⟩ = some u := ⟨_, by rw [o4.cellAt (i * 3) (by show i * 3 < n * 3; omega), List.getElem?_eq_getElem (by omega)]⟩
          have s1 : ∃ u, w3.cell? ⟨g, i * 3 + 1, none⟩ = some u := ⟨_, by rw [o4.cellAt (i * 3 + 1) (by show i * 3 + 1 < n * 3; omega), List.getElem?_eq_getElem (by omega)]⟩
          have s2 : ∃ u, w3.cell? ⟨g, i * 3 + 2, none⟩ = some u := ⟨_, by rw [o4.cellAt (i * 3 + 2) (by show i * 3 + 2 < n * 3; omega), List.getElem?_eq_getElem (by omega)]⟩
          obtain ⟨u0, s0⟩ := s0
          obtain ⟨u1, s1⟩ := s1
          obtain ⟨u2, s2⟩ := s2
          have f0 := o4.frozenAt (g := g) (i * 3)
          have f1 := o4.frozenAt (g := g) (i * 3 + 1)
          have f2 := o4.frozenAt (g := g) (i * 3 + 2)
          have HP4 := Lib.hid (Hset.out w3 k4)
          have hgne : g ≠ wr.heap.size := by omega
          have hb4 : Below base w w3 := hb.trans (k4.mono (Nat.le_trans hbase hb.size))
          have hg3 : g < w3.heap.size := by omega
          clear Hset Hown o4 Xb Hp k3 d0 d1 d2
          go_wp2
          go_roundw
          case rel => exact ⟨i + 1, j + 1, L.set i x, _, by go_num, by go_num, by omega, by omega, Hk, HP4, by simp; exact hg3, ((hb4.setCell hglo _).setCell hglo _).setCell hglo _⟩
          case measure => simp [intOf]; omega
        · have Hk := Lib.hid (hg1.out (by first | rfl | trivial))
          clear hg1 hk1 Hset Hown
          go_wp2_with fail
          refine (Hc.out _).mono ?_
          rintro e w3 ⟨rfl, k3⟩
          have k4 : Below wr.heap.size wr w3 := below_after k3 (by (repeat (first | (with_reducible exact Below.refl _ _) | (with_reducible refine below_setCell ?_ (by first | (simp; done) | (simp; omega) | omega)) | (with_reducible refine below_alloc _ ?_) | (with_reducible refine below_drewN ?_ _) | (with_reducible assumption) | (with_reducible refine below_after (by assumption) ?_))))
          have hq : wr.heap.size < w3.heap.size := by have := k3.size; simp at this; omega
          have HP4 := Lib.hid (Hp.out.below k4)
          have hb4 : Below base w w3 := hb.trans (k4.mono (Nat.le_trans hbase hb.size))
          have hg3 : g < w3.heap.size := by omega
          clear Hp k3 d0 d1 d2
          go_wp2
          go_roundw
          case rel => exact ⟨i, j + 1, L, _, rfl, by go_num, by omega, by omega, Hk, HP4, hg3, hb4⟩
          case measure => simp [intOf]; omega
      · have hjI : (n : Int) ≤ (j : Int) := by omega
        obtain rfl : j = n := by omega
        have He := Lib.hid (dinv_end Hv.out Hn.out.symm)
        have hic : ¬ (cap = i) := by omega
        have hiI : (i : Int) ≤ (j : Int) := by omega
        have hicI : (i : Int) ≤ (cap : Int) := by omega
        have hpos : 0 < j - i := by omega
        obtain ⟨Z, hZ⟩ : ∃ Z, (Builtin.zeroCells (Value.cells (.agg #[.string ⟨#[]⟩, .string ⟨#[]⟩, .bool false])) (j - i)).toList = Z := ⟨_, rfl⟩
        have hZl : Z.length = (j - i) * 3 := by rw [← hZ, Array.length_toList, size_zeroCells]; rfl
        have hZ1 : ∀ u ∈ Z, u.oneCell' = true := fun u hu => by
          rw [← hZ] at hu
          have h1 := zeroCells_mem hu
          have h2 : u ∈ [Value.string ⟨#[]⟩, .string ⟨#[]⟩, .bool false] := h1
          simp only [List.mem_cons, List.mem_nil_iff, or_false] at h2
          rcases h2 with rfl | rfl | rfl <;> simp [Value.oneCell']
        have Hown := Hp.out.choose_spec.1
        obtain ⟨_, cur2, _, _, _, _, _, hsome, hfree⟩ := own_some Hown
        have hcl : cs.length = j * 3 := Hown.1
        have hjc : j * 3 ≤ cap * 3 := Nat.mul_le_mul_right _ hnc
        have hrun : ∀ ty cc, (Builtin.clear_ #[24] ty #[.slice (some ⟨g, i * 3, none⟩) (j - i) cc]).run Try.prog wr = .ok (.tuple #[]) (wr.setCells g (i * 3) Z) := fun ty cc =>
          run_clear_wide wr _ 45 ty _ Try.underlying24 Try.zeroValue45 g (i * 3) (j - i) cc hpos Z hZ hZ1 (fun q hq => hsome _ (by show i * 3 + q < cap * 3; omega)) (fun q _ => hfree _)
        obtain ⟨o5, k5⟩ := own_setCells Hown (i * 3) Z j hnc (cs.take (i * 3) ++ Z) (by show _ = j * 3; rw [List.length_append, List.length_take]; omega) (by show _ ≤ j * 3; omega)
          (fun q h1 h2 => by rw [List.getElem?_append_right (by rw [List.length_take]; omega), List.length_take, Nat.min_eq_left (by omega)])
          (fun q h1 h2 => by
            have h1 : q < j * 3 := h1
            refine ⟨h1, ?_⟩
            rw [List.getElem?_append_left (by rw [List.length_take]; omega), List.getElem?_take_of_lt (by omega)])
        have o6 := own_prefix o5 (i := i) (by omega)
        have e6 : (cs.take (i * 3) ++ Z).take (i * Cod.write.size) = cs.take (i * Cod.write.size) := by
          show (cs.take (i * 3) ++ Z).take (i * 3) = cs.take (i * 3)
          rw [List.take_append_of_le_length (by rw [List.length_take]; omega), List.take_take, Nat.min_self]
        rw [e6] at o6
        have hP7 := Hp.out.front hLn (i := i) (by omega) k5 o6
        have hlen : (l.filter notGone).length = i := by rw [← He.out, List.length_take]; omega
        have HF : Hid (DelPost l base w (.returned (.slice (some ⟨g, 0, none⟩) i cap)) (wr.setCells g (i * 3) Z)) := Lib.hid ⟨_, _, rfl, by rw [hlen, ← He.out]; exact hP7, by
          have hgb2 : Below base wr (wr.setCells g (i * 3) Z) := Below.grown (Below.refl _ _) k5 (Nat.le_trans hbase hb.size) fun q hq => by injection hq with hq; omega
          exact hb.trans hgb2⟩
        clear hZ hZl hZ1 Hown hsome hfree o5 k5 o6 e6 hP7 hlen He Hp Hv
        go_wp2_with (at_builtin; refine wpList_clear_eq _ rfl _ 24 rfl _ rfl (hrun _ _) ?_)
        go_ret
        exact HF.out

end Go.Proofs.Ytkcidneefdaaiaa
