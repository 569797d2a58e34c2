/- The writes of PutRows at impl: the closures, the index of the first that is gone, isRows, putWrite. Printed by mkputw.py. -/
import Derived.Test.YtkcidneefdaaiaaFindW
import Derived.Test.YtkcidneefdaaiaaInsW
import Derived.Test.YtkcidneefdaaiaaCopyl
import Derived.Test.YtkcidneefdaaiaaBlk
namespace Go.Proofs.Ytkcidneefdaaiaa
open Go.RowKit

def goneB (x : WriteD) : Bool := x.Gone

/-- the closure of impl.putRows -/
theorem prCf_closure (x : WriteD) (w : World) : Calls Try.prog 51 #[.agg #[.string x.Key, .string x.Val, .bool x.Gone]] w fun e w' => e = .returned (.bool (goneB x)) ∧ Below w.heap.size w w' := by
  unfold goneB
  go_enter Try.func51, Try.ntmps51
  go_wp2
  go_ret
  exact ⟨rfl, by (repeat (first | exact Below.refl _ _ | exact below_new _ _ | refine below_setCell ?_ (by first | (simp; done) | (simp; omega) | omega) | refine below_alloc _ ?_ | refine below_drewN ?_ _ | refine below_after (by assumption) ?_ | assumption))⟩

/-- the closure of impl.isRows -/
theorem irCf_closure (x : WriteD) (w : World) : Calls Try.prog 43 #[.agg #[.string x.Key, .string x.Val, .bool x.Gone]] w fun e w' => e = .returned (.bool (goneB x)) ∧ Below w.heap.size w w' := by
  unfold goneB
  go_enter Try.func43, Try.ntmps43
  go_wp2
  go_ret
  exact ⟨rfl, by (repeat (first | exact Below.refl _ _ | exact below_new _ _ | refine below_setCell ?_ (by first | (simp; done) | (simp; omega) | omega) | refine below_alloc _ ?_ | refine below_drewN ?_ _ | refine below_after (by assumption) ?_ | assumption))⟩

/-- Where the first is that is gone. -/
def IdxPost (l : List WriteD) (e : Ending) : Prop := (∃ k : Nat, ∃ h : k < l.length, e = .returned (.int .i64 (k : Int)) ∧ (∀ j (h : j < l.length), j < k → goneB l[j] = false) ∧ goneB l[k] = true) ∨ (e = .returned (.int .i64 (-1)) ∧ l.any goneB = false)

set_option maxRecDepth 100000 in
set_option maxHeartbeats 800000 in
/-- slices.IndexFunc at the closure -/
theorem prCf_idx (v : Value) (l : List WriteD) (hl : l.length ≤ 1048576) (w : World) (h : Rd Cod.write w v l) :
    Calls Try.prog 67 #[v, .func (.func 51) #[] #[]] w fun e w' => IdxPost l e ∧ Below w.heap.size w w' := by
  obtain ⟨p, c, rfl, _, _, r⟩ := h.form
  have R := Lib.hid r
  clear r h
  obtain ⟨n, hn⟩ : ∃ n : Nat, l.length = n := ⟨_, rfl⟩
  have Hn := Lib.hid hn
  rw [hn]
  have hnb : (n : Int) ≤ 1048576 := by omega
  clear hn hl
  go_enter Try.func67, Try.ntmps67
  go_wp2
  go_loopw [5, 8] (fun _ i wr => ∃ k : Nat, i = .int .i64 (k : Int) ∧ k ≤ n ∧ Hid (∀ j (h : j < l.length), j < k → goneB l[j] = false) ∧ Below w.heap.size w wr) (fun _ i _ => n - (intOf i).toNat)
  case atStart => exact ⟨0, rfl, Nat.zero_le _, Lib.hid fun j _ h => by omega, Below.refl _ _⟩
  case round =>
    obtain ⟨k, rfl, hk, Hall, hb⟩ := hrel
    by_cases hlt : k < n
    · have hlt2 : (k : Int) < (n : Int) := by omega
      have hkl : k < l.length := by have := Hn.out; omega
      obtain ⟨g, o, rfl, hg, hc⟩ := R.out (by have := Hn.out; omega)
      have at0 := (hc k hkl).below hg hb
      have Hb : Hid (goneB l[k] = true → IdxPost l (.returned (.int .i64 (k : Int)))) := Lib.hid fun h => Or.inl ⟨k, hkl, rfl, Hall.out, h⟩
      have Hnx : Hid (goneB l[k] = false → ∀ j (h : j < l.length), j < k + 1 → goneB l[j] = false) := Lib.hid fun h j hj hjk => by
        by_cases e : j = k
        · subst e; exact h
        · exact Hall.out j hj (by omega)
      obtain ⟨x, es⟩ : ∃ x, l[k] = x := ⟨_, rfl⟩
      rw [es] at at0 Hb Hnx
      clear hc es hkl
      obtain ⟨d0, d1, d2, zKey, zVal⟩ := at_write at0
      rw [show o + k * Cod.write.size = o + k * 3 from rfl] at *
      clear at0
      have Hc := Lib.hid (prCf_closure x)
      generalize goneB x = b at *
      cases b
      · go_wp2_with fail
        refine (Hc.out _).mono ?_
        rintro e w1 ⟨rfl, k1⟩
        go_wp2
        go_roundw
        case rel => exact ⟨k + 1, by go_num, by omega, Lib.hid (Hnx.out (by first | rfl | trivial)), below_after k1 hb⟩
        case measure => simp [intOf]; omega
      · have Hq := Lib.hid (Hb.out (by first | rfl | trivial))
        go_wp2_with fail
        refine (Hc.out _).mono ?_
        rintro e w1 ⟨rfl, k1⟩
        go_wp2
        go_ret
        exact ⟨Hq.out, below_after k1 hb⟩
    · have hlt2 : (n : Int) ≤ (k : Int) := by omega
      obtain rfl : k = n := by omega
      have Hq : Hid (l.any goneB = false) := Lib.hid (List.any_eq_false.2 fun x hx => by
        obtain ⟨j, hj, rfl⟩ := List.getElem_of_mem hx
        rw [Hall.out j hj (by have := Hn.out; omega)]
        simp)
      go_wp2
      go_ret
      exact ⟨Or.inr ⟨rfl, Hq.out⟩, hb⟩

set_option maxRecDepth 100000 in
set_option maxHeartbeats 800000 in
/-- slices.IndexFunc at the closure -/
theorem irCf_idx (v : Value) (l : List WriteD) (hl : l.length ≤ 1048576) (w : World) (h : Rd Cod.write w v l) :
    Calls Try.prog 67 #[v, .func (.func 43) #[] #[]] w fun e w' => (∃ r : Int, e = .returned (.int .i64 r) ∧ ((0 ≤ r ∧ r ≤ 1048576 ∧ l.any goneB = true) ∨ (r = -1 ∧ l.any goneB = false))) ∧ Below w.heap.size w w' := by
  obtain ⟨p, c, rfl, _, _, r⟩ := h.form
  have R := Lib.hid r
  clear r h
  obtain ⟨n, hn⟩ : ∃ n : Nat, l.length = n := ⟨_, rfl⟩
  have Hn := Lib.hid hn
  rw [hn]
  have hnb : (n : Int) ≤ 1048576 := by omega
  clear hn hl
  go_enter Try.func67, Try.ntmps67
  go_wp2
  go_loopw [5, 8] (fun _ i wr => ∃ k : Nat, i = .int .i64 (k : Int) ∧ k ≤ n ∧ Hid (∀ j (h : j < l.length), j < k → goneB l[j] = false) ∧ Below w.heap.size w wr) (fun _ i _ => n - (intOf i).toNat)
  case atStart => exact ⟨0, rfl, Nat.zero_le _, Lib.hid fun j _ h => by omega, Below.refl _ _⟩
  case round =>
    obtain ⟨k, rfl, hk, Hall, hb⟩ := hrel
    by_cases hlt : k < n
    · have hlt2 : (k : Int) < (n : Int) := by omega
      have hkl : k < l.length := by have := Hn.out; omega
      obtain ⟨g, o, rfl, hg, hc⟩ := R.out (by have := Hn.out; omega)
      have at0 := (hc k hkl).below hg hb
      have Hb : Hid (goneB l[k] = true → l.any goneB = true) := Lib.hid fun h => List.any_eq_true.2 ⟨l[k], List.getElem_mem hkl, h⟩
      have Hnx : Hid (goneB l[k] = false → ∀ j (h : j < l.length), j < k + 1 → goneB l[j] = false) := Lib.hid fun h j hj hjk => by
        by_cases e : j = k
        · subst e; exact h
        · exact Hall.out j hj (by omega)
      obtain ⟨x, es⟩ : ∃ x, l[k] = x := ⟨_, rfl⟩
      rw [es] at at0 Hb Hnx
      clear hc es hkl
      obtain ⟨d0, d1, d2, zKey, zVal⟩ := at_write at0
      rw [show o + k * Cod.write.size = o + k * 3 from rfl] at *
      clear at0
      have Hc := Lib.hid (irCf_closure x)
      generalize goneB x = b at *
      cases b
      · go_wp2_with fail
        refine (Hc.out _).mono ?_
        rintro e w1 ⟨rfl, k1⟩
        go_wp2
        go_roundw
        case rel => exact ⟨k + 1, by go_num, by omega, Lib.hid (Hnx.out (by first | rfl | trivial)), below_after k1 hb⟩
        case measure => simp [intOf]; omega
      · have Hq := Lib.hid (Hb.out (by first | rfl | trivial))
        go_wp2_with fail
        refine (Hc.out _).mono ?_
        rintro e w1 ⟨rfl, k1⟩
        go_wp2
        go_ret
        exact ⟨⟨_, rfl, Or.inl ⟨by omega, by omega, Hq.out⟩⟩, below_after k1 hb⟩
    · have hlt2 : (n : Int) ≤ (k : Int) := by omega
      obtain rfl : k = n := by omega
      have Hq : Hid (l.any goneB = false) := Lib.hid (List.any_eq_false.2 fun x hx => by
        obtain ⟨j, hj, rfl⟩ := List.getElem_of_mem hx
        rw [Hall.out j hj (by have := Hn.out; omega)]
        simp)
      go_wp2
      go_ret
      exact ⟨⟨_, rfl, Or.inr ⟨rfl, Hq.out⟩⟩, hb⟩

/-- slices.ContainsFunc at the closure -/
theorem irCf_any (v : Value) (l : List WriteD) (hl : l.length ≤ 1048576) (w : World) (h : Rd Cod.write w v l) :
    Calls Try.prog 42 #[v, .func (.func 43) #[] #[]] w fun e w' => e = .returned (.bool (l.any goneB)) ∧ Below w.heap.size w w' := by
  have Hc := Lib.hid (irCf_idx v l hl w h)
  generalize l.any goneB = b at *
  go_enter Try.func42, Try.ntmps42
  go_wp2_with fail
  refine Hc.out.mono ?_
  rintro e w1 ⟨⟨r, rfl, hr⟩, k1⟩
  rcases hr with ⟨h0, h1, ha⟩ | ⟨rfl, ha⟩
  · have Ha := Lib.hid ha
    clear ha
    go_wp2
    go_ret
    exact ⟨ret_bool (by first | (rw [Ha.out]; done) | (rw [Ha.out]; simp; omega)), k1⟩
  · have Ha := Lib.hid ha
    clear ha
    go_wp2
    go_ret
    exact ⟨ret_bool (by first | (rw [Ha.out]; done) | (rw [Ha.out]; simp)), k1⟩

theorem rowsB_eq (l : List WriteD) : rowsB l = (goodWB l && !l.any goneB) := by
  unfold rowsB
  congr 1
  induction l with
  | nil => rfl
  | cons x r ih => simp only [List.all_cons, List.any_cons, ih, Bool.not_or]; rfl

set_option maxRecDepth 100000 in
/-- impl.isRows -/
theorem isRows_any (v : Value) (l : List WriteD) (hl : l.length ≤ 1048576) (w : World) (h : Rd Cod.write w v l) :
    Calls Try.prog 24 #[v] w fun e w' => e = .returned (.bool (rowsB l)) ∧ Below w.heap.size w w' := by
  have Hg := Lib.hid (goodWrites_any v l hl w h)
  have Hc := Lib.hid (fun (W : World) (k : Below w.heap.size w W) => irCf_any v l hl W (h.below k))
  rw [rowsB_eq]
  generalize goodWB l = q at *
  generalize l.any goneB = p at *
  clear h hl
  cases q
  · go_enter Try.func24, Try.ntmps24
    go_wp2_with fail
    refine Hg.out.mono ?_
    rintro e w1 ⟨rfl, k1⟩
    go_wp2
    go_ret
    exact ⟨ret_bool (by simp), k1⟩
  · go_enter Try.func24, Try.ntmps24
    go_wp2_with fail
    refine Hg.out.mono ?_
    rintro e w1 ⟨rfl, k1⟩
    go_wp2_with fail
    refine (Hc.out _ k1).mono ?_
    rintro e w2 ⟨rfl, k2⟩
    go_wp2
    go_ret
    exact ⟨ret_bool (by simp), below_after k2 k1⟩

theorem PartC.oneCell {α : Type} {c : Cod α} (hf : Flat c) (hsz : 0 < c.size) {w : World} {base : Nat} {e : TypeId} {v : Value} {n : Nat} {xs : List α} {cells : List Value} (h : PartC c w base e v n xs cells) (hn : xs.length = n) : ∀ u ∈ cells, u.oneCell' = true := by
  obtain ⟨fs, ho, _, hfl, hr, _⟩ := h
  intro u hu
  obtain ⟨j, hj, rfl⟩ := List.getElem_of_mem hu
  have hl : cells.length = n * c.size := ho.1
  obtain ⟨hk, he, hq⟩ := div_split (n := n) hsz (by omega : j < n * c.size)
  have hk2 : j / c.size < xs.length := by omega
  have hrd := hr (j / c.size) hk2 fs[j / c.size] (List.getElem?_eq_getElem (by omega))
  obtain ⟨_, _, h3⟩ := hf (w' := w) hrd
  obtain ⟨u, hu2, ho2⟩ := h3 _ hq
  rw [← he, List.getElem?_eq_getElem hj] at hu2
  injection hu2 with hu2
  rw [hu2]
  exact ho2

theorem putW_found {x : WriteD} {l : List WriteD} {i : Nat} (hi : i < l.length) (he : l[i].Key = x.Key) (hlt : ∀ t (h : t < l.length), t < i → ltB l[t].Key x.Key = true) : putW x l = l.set i x := by
  have e : l = l.take i ++ l[i] :: l.drop (i + 1) := by
    rw [List.getElem_cons_drop hi, List.take_append_drop]
  have h1 := putW_at he (l.take i) (l.drop (i + 1)) (fun z hz => by
    obtain ⟨t, ht, rfl⟩ := List.getElem_of_mem hz
    rw [List.length_take] at ht
    rw [List.getElem_take]
    exact hlt t (by omega) (by omega))
  rw [← e] at h1
  rw [h1, List.set_eq_take_append_cons_drop, if_pos hi]
theorem putW_none {x : WriteD} {l : List WriteD} (hs : RiseW l) {i : Nat} (hlt : ∀ t (h : t < l.length), t < i → ltB l[t].Key x.Key = true) (hge : ∀ t (h : t < l.length), i ≤ t → ltB l[t].Key x.Key = false) (hne : ¬ ∃ h : i < l.length, l[i].Key = x.Key) :
    putW x l = l.take i ++ x :: l.drop i := by
  have h1 := putW_mid (x := x) (l.take i) (l.drop i) (fun z hz => by
    obtain ⟨t, ht, rfl⟩ := List.getElem_of_mem hz
    rw [List.length_take] at ht
    rw [List.getElem_take]
    exact hlt t (by omega) (by omega)) (fun z hz => by
    obtain ⟨t, ht, rfl⟩ := List.getElem_of_mem hz
    rw [List.length_drop] at ht
    rw [List.getElem_drop]
    have hit : i + t < l.length := by omega
    have h2 := hge (i + t) hit (by omega)
    refine lt_total h2 fun e => ?_
    cases t with
    | zero => exact hne ⟨by omega, e.symm⟩
    | succ t =>
      have h3 := (List.pairwise_iff_getElem.1 hs) i (i + (t + 1)) (by omega) hit (by omega)
      rw [← e] at h3
      rw [hge i (by omega) (Nat.le_refl _)] at h3
      cases h3)
  rw [List.take_append_drop] at h1
  exact h1

/-- A write put, at impl. -/
def PutPostW (x : WriteD) (l : List WriteD) (base : Nat) (w : World) (e : Ending) (w' : World) : Prop := ∃ v' cells, e = .returned v' ∧ PartC Cod.write w' base 45 v' (putW x l).length (putW x l) cells ∧ Below base w w'

set_option maxRecDepth 100000 in
set_option maxHeartbeats 6400000 in
/-- impl.putWrite -/
theorem putWrite_any (v : Value) (l : List WriteD) (x : WriteD) (cells : List Value) (base : Nat) (hs : RiseW l) (hl : l.length ≤ 1048576) (hx1 : x.Key.size ≤ maxLen) (hx2 : x.Val.size ≤ maxLen) (w : World) (hbase : base ≤ w.heap.size)
    (hP : PartC Cod.write w base 45 v l.length l cells) : Calls Try.prog 49 #[v, .agg #[.string x.Key, .string x.Val, .bool x.Gone]] w (PutPostW x l base w) := by
  have Hf := Lib.hid (fun (W : World) (k : Below w.heap.size w W) => findWrite_any v l x.Key hl (sortedW_of hs) W ((hP.own rfl).rd.below k))
  have HP := Lib.hid hP
  have Hs := Lib.hid hs
  have Hone := Lib.hid (hP.oneCell flat_write (by decide) rfl)
  have Hx : Hid (∀ W : World, Cod.write.rd W (lst [.string x.Key, .string x.Val, .bool x.Gone]) x []) := Lib.hid fun W => mk_write rfl hx1 rfl hx2 rfl
  obtain ⟨K, hK⟩ : ∃ K, x.Key = K := ⟨_, rfl⟩
  obtain ⟨V, hV⟩ : ∃ V, x.Val = V := ⟨_, rfl⟩
  obtain ⟨G, hG⟩ : ∃ G, x.Gone = G := ⟨_, rfl⟩
  rw [hK, hV, hG] at Hx ⊢
  rw [hK] at Hf
  have HK := Lib.hid hK
  obtain ⟨p, c, hv⟩ := hP.form
  have hlt : ∀ b, v.ownBlock = some b → b < w.heap.size := fun b hb => (hP.choose_spec.1.lt b hb).2
  have hlo : ∀ b, v.ownBlock = some b → base ≤ b := fun b hb => (hP.choose_spec.1.lt b hb).1
  have hcase : (l = [] ∧ v = .slice none 0 0) ∨ ∃ g cap, v = .slice (some ⟨g, 0, none⟩) l.length cap := by
    rcases own_forms hP.choose_spec.1 with ⟨h1, h2⟩ | ⟨g, cap, h1⟩
    · exact Or.inl ⟨List.eq_nil_of_length_eq_zero h2, h1⟩
    · exact Or.inr ⟨g, cap, h1⟩
  have Hlt := Lib.hid hlt
  have Hlo := Lib.hid hlo
  have Hcase := Lib.hid hcase
  have hlI : (l.length : Int) ≤ 1048576 := by omega
  clear hs hP hx1 hx2 hK hV hG hlt hlo hcase
  subst hv
  obtain ⟨n, hn⟩ : ∃ n, l.length = n := ⟨_, rfl⟩
  have Hn := Lib.hid hn
  rw [hn] at HP Hf Hlt Hlo Hcase hlI hl ⊢
  clear hn
  go_enter Try.func49, Try.ntmps49
  go_wp2_with fail
  refine (Hf.out _ (by (repeat (first | (with_reducible exact Below.refl _ _) | (with_reducible refine below_setCell ?_ (by first | (simp; done) | (simp; omega) | omega)) | (with_reducible refine below_alloc _ ?_) | (with_reducible refine below_drewN ?_ _) | (with_reducible assumption) | (with_reducible refine below_after (by assumption) ?_))))).mono ?_
  rintro e w1 ⟨i, f, rfl, ⟨hin, hless, hmore, hf⟩, k1⟩
  have Hin : Hid (i ≤ n) := Lib.hid (by have := Hn.out; omega)
  have Hless := Lib.hid hless
  have Hmore := Lib.hid hmore
  have kb : Below w.heap.size w w1 := below_after k1 (by (repeat (first | (with_reducible exact Below.refl _ _) | (with_reducible refine below_setCell ?_ (by first | (simp; done) | (simp; omega) | omega)) | (with_reducible refine below_alloc _ ?_) | (with_reducible refine below_drewN ?_ _) | (with_reducible assumption) | (with_reducible refine below_after (by assumption) ?_))))
  have hq : w.heap.size < w1.heap.size := by have := k1.size; simp at this; omega
  have X : Blk w1 w.heap.size 45 #[.string K, .string V, .bool G] := (Blk.new w 45 #[.string K, .string V, .bool G]).below k1
  have x0 := X.cell 0 (v := .string K) rfl
  have x1 := X.cell 1 (v := .string V) rfl
  have x2 := X.cell 2 (v := .bool G) rfl
  have HP1 := Lib.hid (HP.out.below kb)
  clear hless hmore hin k1 HP Hf X
  cases f
  · have Hnot : Hid (¬ ∃ h : i < l.length, l[i].Key = x.Key) := Lib.hid (by
      rw [HK.out]
      intro h
      rw [pB_true h] at hf
      cases hf)
    have He := Lib.hid (putW_none Hs.out (by rw [HK.out]; exact Hless.out) (by rw [HK.out]; exact Hmore.out) Hnot.out)
    have hil : i ≤ l.length := by have := Hn.out; have := Hin.out; omega
    have hne : ∀ W : World, w1.heap.size ≤ W.heap.size → some w1.heap.size ≠ (Value.slice p n c).ownBlock := fun W _ e => by have := Hlt.out _ e.symm; omega
    have Hins := Lib.hid (fun (W : World) (o : W.ownsRow base 45 3 (.slice p n c) n cells) (hb : base ≤ W.heap.size) (H : Nat) (hH : W.heap[H]? = some (.cells #[.string K, .string V, .bool G] 45 (0, 0))) (hHn : some H ≠ (Value.slice p n c).ownBlock) =>
      insW_any (.slice p n c) n i cells (.string K) (.string V) (.bool G) H base W o Hin.out (by omega) hb hH hHn (by simp [Value.oneCell']) Hone.out)
    have hbase1 : base ≤ w1.heap.size := Nat.le_trans hbase kb.size
    clear hf Hcase Hless Hmore Hnot
    go_wp2_with fail
    refine (Hins.out _ (own_below HP1.out.choose_spec.1 (below_new _ _)) (Nat.le_trans hbase1 (by simp)) w1.heap.size (by show (w1.heap.push _)[w1.heap.size]? = _; simp) (hne w1 (Nat.le_refl _))).mono ?_
    rintro e w3 ⟨v', rfl, ho, hg, hat⟩
    have HF : Hid (PutPostW x l base w (.returned v') w3) := Lib.hid (by
      have hPa := HP1.out.below (below_new w1 (.cells #[.string K, .string V, .bool G] 45))
      have h1 := hPa.insert (i := i) (cs := [.string K, .string V, .bool G]) (x := x) Hn.out Hin.out rfl (Hx.out w3) ho hg hat
      have hlen : (putW x l).length = n + 1 := by rw [He.out]; simp; have := Hn.out; omega
      refine ⟨v', cells.take (i * Cod.write.size) ++ ([.string K, .string V, .bool G] ++ cells.drop (i * Cod.write.size)), rfl, ?_, ?_⟩
      · rw [hlen, He.out]
        exact h1
      · have hgb : Below base (w1.alloc (.cells #[.string K, .string V, .bool G] 45)) w3 := Below.grown (Below.refl _ _) hg (Nat.le_trans hbase1 (by simp)) fun j hj => Hlo.out j hj
        exact ((kb.mono hbase).trans ((below_new _ _).mono hbase1)).trans hgb)
    clear ho hg hat
    go_wp2
    go_ret
    exact HF.out
  · have hex : ∃ h : i < l.length, l[i].Key = x.Key := by
      rw [HK.out]
      refine Classical.byContradiction fun h => ?_
      rw [pB_false h] at hf
      cases hf
    obtain ⟨hil, hkey⟩ := hex
    have He := Lib.hid (putW_found hil hkey (by rw [HK.out]; exact Hless.out))
    have hin : i < n := by have := Hn.out; omega
    have hinI : (i : Int) < (n : Int) := by omega
    rcases Hcase.out with ⟨h0, _⟩ | ⟨g, cap, hv⟩
    · subst h0
      simp at hil
    injection hv with hp _ hc
    subst hp
    subst hc
    have hgl : g < w.heap.size := Hlt.out g rfl
    have hglo : base ≤ g := Hlo.out g rfl
    have hgne : g ≠ w.heap.size := by omega
    have Hown := Lib.hid HP1.out.choose_spec.1
    have hci : i * 3 + 3 ≤ n * 3 := by omega
    have hcl : cells.length = n * 3 := Hown.out.1
    have s0 : ∃ u, w1.cell? ⟨g, i * 3, none⟩ = some u := ⟨_, by rw [Hown.out.cellAt (i * 3) (by show i * 3 < n * 3; omega), List.getElem?_eq_getElem (by omega)]⟩
    have s1 : ∃ u, w1.cell? ⟨g, i * 3 + 1, none⟩ = some u := ⟨_, by rw [Hown.out.cellAt (i * 3 + 1) (by show i * 3 + 1 < n * 3; omega), List.getElem?_eq_getElem (by omega)]⟩
    have s2 : ∃ u, w1.cell? ⟨g, i * 3 + 2, none⟩ = some u := ⟨_, by rw [Hown.out.cellAt (i * 3 + 2) (by show i * 3 + 2 < n * 3; omega), List.getElem?_eq_getElem (by omega)]⟩
    obtain ⟨u0, s0⟩ := s0
    obtain ⟨u1, s1⟩ := s1
    obtain ⟨u2, s2⟩ := s2
    have f0 := Hown.out.frozenAt (g := g) (i * 3)
    have f1 := Hown.out.frozenAt (g := g) (i * 3 + 1)
    have f2 := Hown.out.frozenAt (g := g) (i * 3 + 2)
    have HF : Hid (PutPostW x l base w (.returned (.slice (some ⟨g, 0, none⟩) n c)) (((w1.setCell ⟨g, i * 3, none⟩ (.string K)).setCell ⟨g, i * 3 + 1, none⟩ (.string V)).setCell ⟨g, i * 3 + 2, none⟩ (.bool G))) := Lib.hid (by
      have h1 := HP1.out.setAt (i := i) (cs := [.string K, .string V, .bool G]) (x := x) hil rfl (Hx.out _)
      refine ⟨_, setList cells (i * Cod.write.size) [.string K, .string V, .bool G], rfl, ?_, ?_⟩
      · rw [He.out, List.length_set, Hn.out]
        exact h1.1
      · exact (((kb.mono hbase).setCell hglo _).setCell hglo _).setCell hglo _)
    clear hf hil hkey Hcase Hless Hmore Hown
    go_wp2
    go_ret
    exact HF.out

end Go.Proofs.Ytkcidneefdaaiaa
