/- Cells found by their keys, both. -/
import Derived.Test.YtkcidneefdaaiaaCopyl
namespace Go.Proofs.Ytkcidneefdaaiaa
open Go.RowKit

/-- cmp.Compare of two strings. -/
def cmpB (x y : ByteArray) : Int := if ltB x y then -1 else if ltB y x then 1 else 0
theorem cmpB_lt {x y : ByteArray} : cmpB x y < 0 ↔ ltB x y = true := by
  unfold cmpB
  split
  · simp [*]
  · split <;> simp [*]
theorem ltB_tri {x y : ByteArray} (h : ltB x y = false) (k : ltB y x = false) : x = y := by
  have := leB_eq x y
  rw [k] at this
  unfold ltB at h
  rw [h] at this
  simp only [Bool.false_or, Bool.not_false, beq_iff_eq] at this
  exact str_eq_iff.1 this
theorem cmpB_zero {x y : ByteArray} : cmpB x y = 0 ↔ x = y := by
  unfold cmpB
  constructor
  · intro h
    split at h
    · cases h
    · split at h
      · cases h
      · rename_i h1 h2
        exact ltB_tri (Bool.eq_false_iff.2 h1) (Bool.eq_false_iff.2 h2)
  · rintro rfl
    rw [ltB_irrefl]
    rfl

/-- cmp.isNaN at strings -/
theorem isNaN_any (x : ByteArray) (w : World) : Calls Try.prog 89 #[.string x] w fun e w' => e = .returned (.bool false) ∧ w = w' := by
  go_enter Try.func89, Try.ntmps89
  go_wp2
  go_ret
  exact ⟨ret_bool (by simp), rfl⟩

/-- cmp.Compare at strings -/
theorem compare_any (x y : ByteArray) (w : World) : Calls Try.prog 79 #[.string x, .string y] w fun e w' => e = .returned (.int .i64 (cmpB x y)) ∧ w = w' := by
  have h1 : Op.bytesLess x.toList y.toList = ltB x y := rfl
  have h2 := leB_eq x y
  rw [h1] at h2
  obtain ⟨b, hbe⟩ : ∃ b, (x.toList == y.toList) = b := ⟨_, rfl⟩
  rw [hbe] at h2
  unfold cmpB
  generalize ltB x y = p at *
  generalize ltB y x = q at *
  cases p <;> cases q <;> cases b <;> first | (exfalso; revert h2; decide; done) | skip
  all_goals
    clear h2
    go_enter Try.func79, Try.ntmps79
    go_wp2_with (go_at_call 89; refine (isNaN_any _ _).mono ?_; rintro e w1 ⟨rfl, rfl⟩)
    go_ret
    exact ⟨rfl, rfl⟩

/-- the closure of impl.findCell -/
theorem findCell_closure (x : CellD) (u : Value) (key : ByteArray) (w : World) : Calls Try.prog 78 #[.agg #[.string x.Key, u], .string key] w fun e w' => e = .returned (.int .i64 (cmpB x.Key key)) ∧ Below w.heap.size w w' := by
  have Hc := Lib.hid (compare_any x.Key key)
  generalize cmpB x.Key key = r at *
  go_enter Try.func78, Try.ntmps78
  go_wp2_with (go_at_call 79; refine (Hc.out _).mono ?_; rintro e w1 ⟨rfl, rfl⟩)
  go_ret
  exact ⟨rfl, by (repeat (first | (with_reducible exact Below.refl _ _) | (with_reducible refine below_setCell ?_ (by first | (simp; done) | (simp; omega) | omega)) | (with_reducible refine below_alloc _ ?_) | (with_reducible refine below_drewN ?_ _) | (with_reducible assumption) | (with_reducible refine below_after (by assumption) ?_)))⟩

/-- Keys rise. -/
def SortedK (l : List CellD) : Prop := ∀ a b (_ : a < b) (h : b < l.length), ltB (l[a]'(by omega)).Key l[b].Key = true
theorem sorted_of {l : List CellD} (h : GoodC l) : SortedK l := by
  have h2 := ((goodC_iff l).1 h).2
  intro a b hab hb
  induction b with
  | zero => omega
  | succ b ih =>
    have h3 := (h2 (b + 1) hb hb).2 b rfl
    by_cases e : a = b
    · subst e; exact h3
    · exact ltB_trans (ih (by omega) (by omega)) h3

/-- What a search finds. -/
def FindP (l : List CellD) (key : ByteArray) (i : Nat) (f : Bool) : Prop :=
  i ≤ l.length ∧ (∀ t (h : t < l.length), t < i → ltB l[t].Key key = true) ∧ (∀ t (h : t < l.length), i ≤ t → ltB l[t].Key key = false) ∧ f = pB (∃ h : i < l.length, l[i].Key = key)
/-- What a search says. -/
def FindE (l : List CellD) (key : ByteArray) (w : World) (e : Ending) (w' : World) : Prop := ∃ i f, e = .returned (.tuple #[.int .i64 ((i : Nat) : Int), .bool f]) ∧ FindP l key i f ∧ Below w.heap.size w w'

set_option maxRecDepth 100000 in
set_option maxHeartbeats 3200000 in
/-- slices.BinarySearchFunc at the closure -/
theorem search_any (v : Value) (l : List CellD) (key : ByteArray) (hl : costCellS l ≤ 1048576) (hs : SortedK l) (w : World) (h : Rd Cod.cell w v l) :
    Calls Try.prog 77 #[v, .string key, .func (.func 78) #[] #[]] w (FindE l key w) := by
  obtain ⟨p, c, rfl, _, _, r⟩ := h.form
  have R := Lib.hid r
  have Hs := Lib.hid hs
  clear r h hs
  obtain ⟨n, hn⟩ : ∃ n : Nat, l.length = n := ⟨_, rfl⟩
  have Hn := Lib.hid hn
  have hnb : (n : Int) ≤ 1048576 := by unfold costCellS at hl; omega
  rw [hn]
  clear hn hl
  unfold FindE
  go_enter Try.func77, Try.ntmps77
  go_wp2
  go_loopw [9, 10] (fun a b wr => ∃ i j : Nat, a = .int .i64 (i : Int) ∧ b = .int .i64 (j : Int) ∧ i ≤ j ∧ j ≤ n ∧ Hid ((∀ t (h : t < l.length), t < i → ltB l[t].Key key = true) ∧ (∀ t (h : t < l.length), j ≤ t → ltB l[t].Key key = false)) ∧ Below w.heap.size w wr) (fun a b _ => (intOf b).toNat - (intOf a).toNat)
  case atStart => exact ⟨0, n, rfl, rfl, Nat.zero_le _, Nat.le_refl _, Lib.hid ⟨fun t _ h => by omega, fun t h h2 => by have := Hn.out; omega⟩, Below.refl _ _⟩
  case round =>
    obtain ⟨i, j, rfl, rfl, hij, hj, Hinv, hb⟩ := hrel
    by_cases hlt : i < j
    · have hlt2 : (i : Int) < (j : Int) := by omega
      have hjb : (j : Int) ≤ 1048576 := by omega
      obtain ⟨m, hm⟩ : ∃ m : Nat, m = (i + j) / 2 := ⟨_, rfl⟩
      have hmi : i ≤ m := by omega
      have hmj : m < j := by omega
      have hmn : (m : Int) < (n : Int) := by omega
      have hm2 : ((i : Int) + (j : Int)) / 2 = (m : Int) := by omega
      have hml : m < l.length := by have := Hn.out; omega
      obtain ⟨g, o, rfl, hg, hc⟩ := R.out (by have := Hn.out; omega)
      have at0 := (hc m hml).below hg hb
      have Hlo : Hid (ltB l[m].Key key = true → (∀ t (h : t < l.length), t < m + 1 → ltB l[t].Key key = true) ∧ (∀ t (h : t < l.length), j ≤ t → ltB l[t].Key key = false)) := Lib.hid fun h => by
        refine ⟨fun t ht htm => ?_, Hinv.out.2⟩
        by_cases e : t = m
        · subst e; exact h
        · exact ltB_trans (Hs.out t m (by omega) hml) h
      have Hhi : Hid (ltB l[m].Key key = false → (∀ t (h : t < l.length), t < i → ltB l[t].Key key = true) ∧ (∀ t (h : t < l.length), m ≤ t → ltB l[t].Key key = false)) := Lib.hid fun h => by
        refine ⟨Hinv.out.1, fun t ht htm => ?_⟩
        by_cases e : t = m
        · subst e; exact h
        · cases hk : ltB l[t].Key key
          · rfl
          · rw [ltB_trans (Hs.out m t (by omega) ht) hk] at h
            cases h
      obtain ⟨x, es⟩ : ∃ x, l[m] = x := ⟨_, rfl⟩
      rw [es] at at0 Hlo Hhi
      obtain ⟨d0, ⟨u, d1, ru⟩, z0⟩ := at_cell at0
      rw [show o + m * Cod.cell.size = o + m * 2 from rfl] at *
      have Hc := Lib.hid (findCell_closure x u key)
      have Hcm := Lib.hid (@cmpB_lt x.Key key)
      clear hc es hml at0 z0 ru hm
      generalize cmpB x.Key key = r at *
      by_cases hr : r < 0
      · have Hq := Lib.hid (Hlo.out (Hcm.out.1 hr))
        clear Hlo Hhi Hcm
        go_wp2_with fail
        refine (Hc.out _).mono ?_
        rintro e w1 ⟨rfl, k1⟩
        clear hm2
        go_wp2
        go_roundw
        case rel => exact ⟨m + 1, j, by go_num, rfl, by omega, by omega, Hq, below_after k1 hb⟩
        case measure => simp [intOf]; omega
      · have Hq := Lib.hid (Hhi.out (by
          cases hk : ltB x.Key key
          · rfl
          · exact absurd (Hcm.out.2 hk) hr))
        have hr2 : 0 ≤ r := by omega
        clear Hlo Hhi Hcm hr
        go_wp2_with fail
        refine (Hc.out _).mono ?_
        rintro e w1 ⟨rfl, k1⟩
        clear hm2
        go_wp2
        go_roundw
        case rel => exact ⟨i, m, rfl, rfl, by omega, by omega, Hq, below_after k1 hb⟩
        case measure => simp [intOf]; omega
    · have hlt2 : (j : Int) ≤ (i : Int) := by omega
      obtain rfl : i = j := by omega
      by_cases hin : i < n
      · have hin2 : (i : Int) < (n : Int) := by omega
        have hil : i < l.length := by have := Hn.out; omega
        obtain ⟨g, o, rfl, hg, hc⟩ := R.out (by have := Hn.out; omega)
        have at0 := (hc i hil).below hg hb
        have Hf : Hid (∀ f : Bool, f = decide (cmpB l[i].Key key = 0) → FindP l key i f) := Lib.hid fun f hf => ⟨by omega, Hinv.out.1, Hinv.out.2, by
          rw [hf]
          refine (pB_eq ?_).symm
          rw [decide_eq_true_iff, cmpB_zero]
          exact ⟨fun ⟨_, h⟩ => h, fun h => ⟨hil, h⟩⟩⟩
        obtain ⟨x, es⟩ : ∃ x, l[i] = x := ⟨_, rfl⟩
        rw [es] at at0 Hf
        obtain ⟨d0, ⟨u, d1, ru⟩, z0⟩ := at_cell at0
        rw [show o + i * Cod.cell.size = o + i * 2 from rfl] at *
        have Hc := Lib.hid (findCell_closure x u key)
        clear hc es hil at0 z0 ru
        generalize cmpB x.Key key = r at *
        go_wp2_with fail
        refine (Hc.out _).mono ?_
        rintro e w1 ⟨rfl, k1⟩
        go_wp2
        go_ret2
        refine ⟨i, _, rfl, Hf.out _ ?_, below_after k1 hb⟩
        first | rfl | (simp; done)
      · have hin2 : (n : Int) ≤ (i : Int) := by omega
        have Hf : Hid (FindP l key i false) := Lib.hid ⟨by have := Hn.out; omega, Hinv.out.1, Hinv.out.2, (pB_false fun ⟨h, _⟩ => by have := Hn.out; omega).symm⟩
        go_wp2
        go_ret2
        exact ⟨i, _, rfl, Hf.out, hb⟩

/-- impl.findCell -/
theorem findCell_any (v : Value) (l : List CellD) (key : ByteArray) (hl : costCellS l ≤ 1048576) (hs : SortedK l) (w : World) (h : Rd Cod.cell w v l) :
    Calls Try.prog 62 #[v, .string key] w (FindE l key w) := by
  have Hc := Lib.hid (search_any v l key hl hs w h)
  clear hs h hl
  go_enter Try.func62, Try.ntmps62
  go_wp2_with fail
  refine Hc.out.mono ?_
  rintro e w1 ⟨i, f, rfl, hp, k1⟩
  have Hp := Lib.hid hp
  clear hp
  go_wp2
  go_ret2
  exact ⟨i, f, rfl, Hp.out, k1⟩

end Go.Proofs.Ytkcidneefdaaiaa
