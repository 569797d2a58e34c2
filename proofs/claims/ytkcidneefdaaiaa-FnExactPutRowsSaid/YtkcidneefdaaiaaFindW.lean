/- Writes found by their keys. Printed by mkputw.py out of XFind. -/
import Derived.Test.YtkcidneefdaaiaaFind
import Derived.Test.YtkcidneefdaaiaaPutWL
namespace Go.Proofs.Ytkcidneefdaaiaa
open Go.RowKit

/-- the closure of impl.findWrite -/
theorem findWrite_closure (x : WriteD) (key : ByteArray) (w : World) : Calls Try.prog 86 #[.agg #[.string x.Key, .string x.Val, .bool x.Gone], .string key] w fun e w' => e = .returned (.int .i64 (cmpB x.Key key)) ∧ Below w.heap.size w w' := by
  have Hc := Lib.hid (compare_any x.Key key)
  generalize cmpB x.Key key = r at *
  go_enter Try.func86, Try.ntmps86
  go_wp2_with (go_at_call 79; refine (Hc.out _).mono ?_; rintro e w1 ⟨rfl, rfl⟩)
  go_ret
  exact ⟨rfl, by (repeat (first | (with_reducible exact Below.refl _ _) | (with_reducible refine below_setCell ?_ (by first | (simp; done) | (simp; omega) | omega)) | (with_reducible refine below_alloc _ ?_) | (with_reducible refine below_drewN ?_ _) | (with_reducible assumption) | (with_reducible refine below_after (by assumption) ?_)))⟩

/-- Keys rise. -/
def SortedW (l : List WriteD) : Prop := ∀ a b (_ : a < b) (h : b < l.length), ltB (l[a]'(by omega)).Key l[b].Key = true
theorem sortedW_of {l : List WriteD} (h : RiseW l) : SortedW l := fun a b hab hb => (List.pairwise_iff_getElem.1 h) a b (by omega) hb hab

/-- What a search finds. -/
def FindPW (l : List WriteD) (key : ByteArray) (i : Nat) (f : Bool) : Prop :=
  i ≤ l.length ∧ (∀ t (h : t < l.length), t < i → ltB l[t].Key key = true) ∧ (∀ t (h : t < l.length), i ≤ t → ltB l[t].Key key = false) ∧ f = pB (∃ h : i < l.length, l[i].Key = key)
/-- What a search says. -/
def FindEW (l : List WriteD) (key : ByteArray) (w : World) (e : Ending) (w' : World) : Prop := ∃ i f, e = .returned (.tuple #[.int .i64 ((i : Nat) : Int), .bool f]) ∧ FindPW l key i f ∧ Below w.heap.size w w'

set_option maxRecDepth 100000 in
set_option maxHeartbeats 3200000 in
/-- slices.BinarySearchFunc at the closure -/
theorem searchW_any (v : Value) (l : List WriteD) (key : ByteArray) (hl : l.length ≤ 1048576) (hs : SortedW l) (w : World) (h : Rd Cod.write w v l) :
    Calls Try.prog 85 #[v, .string key, .func (.func 86) #[] #[]] w (FindEW l key w) := by
  obtain ⟨p, c, rfl, _, _, r⟩ := h.form
  have R := Lib.hid r
  have Hs := Lib.hid hs
  clear r h hs
  obtain ⟨n, hn⟩ : ∃ n : Nat, l.length = n := ⟨_, rfl⟩
  have Hn := Lib.hid hn
  have hnb : (n : Int) ≤ 1048576 := by omega
  rw [hn]
  clear hn hl
  unfold FindEW
  go_enter Try.func85, Try.ntmps85
  go_wp2
  go_loopw [9, 10] (fun a b wr => ∃ i j : Nat, a = .int .i64 (i : Int) ∧ b = .int .i64 (j : Int) ∧ i ≤ j ∧ j ≤ n ∧ Hid ((∀ t (h : t < l.length), t < i → ltB l[t].Key key = true) ∧ (∀ t (h : t < l.length), j ≤ t → ltB l[t].Key key = false)) ∧ Below w.heap.size w wr) (fun a b _ => (intOf b).toNat - (intOf a).toNat)
  case atStart => exact ⟨0, n, rfl, rfl, Nat.zero_le _, Nat.le_refl _, Lib.hid ⟨fun t _ h => by omega, fun t h h2 => by have := Hn.out; omega⟩, Below.refl _ _⟩
  case round =>
    obtain ⟨i, j, rfl, rfl, hij, hj, Hinv, hb⟩ := hrel
    by_cases hlt : i < j
    · have hlt2 : (i : Int) < (j : Int) := by omega
      have hjb : (j : Int) ≤ 1048576 := by omega
      obtain ⟨m, hm⟩ : ∃ m : Nat, m = (i + j) / 2 := ⟨_, rfl⟩
      have hmi : i ≤ m := by omega
      have hmj : m < j := by omega
      have hmn : (m : Int) < (n : Int) := by omega
      have hm2 : ((i : Int) + (j : Int)) / 2 = (m : Int) := by omega
      have hml : m < l.length := by have := Hn.out; omega
      obtain ⟨g, o, rfl, hg, hc⟩ := R.out (by have := Hn.out; omega)
      have at0 := (hc m hml).below hg hb
      have Hlo : Hid (ltB l[m].Key key = true → (∀ t (h : t < l.length), t < m + 1 → ltB l[t].Key key = true) ∧ (∀ t (h : t < l.length), j ≤ t → ltB l[t].Key key = false)) := Lib.hid fun h => by
        refine ⟨fun t ht htm => ?_, Hinv.out.2⟩
        by_cases e : t = m
        · subst e; exact h
        · exact ltB_trans (Hs.out t m (by omega) hml) h
      have Hhi : Hid (ltB l[m].Key key = false → (∀ t (h : t < l.length), t < i → ltB l[t].Key key = true) ∧ (∀ t (h : t < l.length), m ≤ t → ltB l[t].Key key = false)) := Lib.hid fun h => by
        refine ⟨Hinv.out.1, fun t ht htm => ?_⟩
        by_cases e : t = m
        · subst e; exact h
        · cases hk : ltB l[t].Key key
          · rfl
          · rw [ltB_trans (Hs.out m t (by omega) ht) hk] at h
            cases h
      obtain ⟨x, es⟩ : ∃ x, l[m] = x := ⟨_, rfl⟩
      rw [es] at at0 Hlo Hhi
      obtain ⟨d0, d1, d2, z0, z1⟩ := at_write at0
      rw [show o + m * Cod.write.size = o + m * 3 from rfl] at *
      have Hc := Lib.hid (findWrite_closure x key)
      have Hcm := Lib.hid (@cmpB_lt x.Key key)
      clear hc es hml at0 z0 z1 hm
      generalize cmpB x.Key key = r at *
      by_cases hr : r < 0
      · have Hq := Lib.hid (Hlo.out (Hcm.out.1 hr))
        clear Hlo Hhi Hcm
        go_wp2_with fail
        refine (Hc.out _).mono ?_
        rintro e w1 ⟨rfl, k1⟩
        clear hm2
        go_wp2
        go_roundw
        case rel => exact ⟨m + 1, j, by go_num, rfl, by omega, by omega, Hq, below_after k1 hb⟩
        case measure => simp [intOf]; omega
      · have Hq := Lib.hid (Hhi.out (by
          cases hk : ltB x.Key key
          · rfl
          · exact absurd (Hcm.out.2 hk) hr))
        have hr2 : 0 ≤ r := by omega
        clear Hlo Hhi Hcm hr
        go_wp2_with fail
        refine (Hc.out _).mono ?_
        rintro e w1 ⟨rfl, k1⟩
        clear hm2
        go_wp2
        go_roundw
        case rel => exact ⟨i, m, rfl, rfl, by omega, by omega, Hq, below_after k1 hb⟩
        case measure => simp [intOf]; omega
    · have hlt2 : (j : Int) ≤ (i : Int) := by omega
      obtain rfl : i = j := by omega
      by_cases hin : i < n
      · have hin2 : (i : Int) < (n : Int) := by omega
        have hil : i < l.length := by have := Hn.out; omega
        obtain ⟨g, o, rfl, hg, hc⟩ := R.out (by have := Hn.out; omega)
        have at0 := (hc i hil).below hg hb
        have Hf : Hid (∀ f : Bool, f = decide (cmpB l[i].Key key = 0) → FindPW l key i f) := Lib.hid fun f hf => ⟨by omega, Hinv.out.1, Hinv.out.2, by
          rw [hf]
          refine (pB_eq ?_).symm
          rw [decide_eq_true_iff, cmpB_zero]
          exact ⟨fun ⟨_, h⟩ => h, fun h => ⟨hil, h⟩⟩⟩
        obtain ⟨x, es⟩ : ∃ x, l[i] = x := ⟨_, rfl⟩
        rw [es] at at0 Hf
        obtain ⟨d0, d1, d2, z0, z1⟩ := at_write at0
        rw [show o + i * Cod.write.size = o + i * 3 from rfl] at *
        have Hc := Lib.hid (findWrite_closure x key)
        clear hc es hil at0 z0 z1
        generalize cmpB x.Key key = r at *
        go_wp2_with fail
        refine (Hc.out _).mono ?_
        rintro e w1 ⟨rfl, k1⟩
        go_wp2
        go_ret2
        refine ⟨i, _, rfl, Hf.out _ ?_, below_after k1 hb⟩
        first | rfl | (simp; done)
      · have hin2 : (n : Int) ≤ (i : Int) := by omega
        have Hf : Hid (FindPW l key i false) := Lib.hid ⟨by have := Hn.out; omega, Hinv.out.1, Hinv.out.2, (pB_false fun ⟨h, _⟩ => by have := Hn.out; omega).symm⟩
        go_wp2
        go_ret2
        exact ⟨i, _, rfl, Hf.out, hb⟩

/-- impl.findWrite -/
theorem findWrite_any (v : Value) (l : List WriteD) (key : ByteArray) (hl : l.length ≤ 1048576) (hs : SortedW l) (w : World) (h : Rd Cod.write w v l) :
    Calls Try.prog 70 #[v, .string key] w (FindEW l key w) := by
  have Hc := Lib.hid (searchW_any v l key hl hs w h)
  clear hs h hl
  go_enter Try.func70, Try.ntmps70
  go_wp2_with fail
  refine Hc.out.mono ?_
  rintro e w1 ⟨i, f, rfl, hp, k1⟩
  have Hp := Lib.hid hp
  clear hp
  go_wp2
  go_ret2
  exact ⟨i, f, rfl, Hp.out, k1⟩

end Go.Proofs.Ytkcidneefdaaiaa
