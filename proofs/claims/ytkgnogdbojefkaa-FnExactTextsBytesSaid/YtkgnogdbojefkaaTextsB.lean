/- TextsBytes, both. -/
import Derived.Test.YtkgnogdbojefkaaStrs4
namespace Go.Proofs.Ytkgnogdbojefkaa
open Go.RowKit

/-- Whether TextsBytes takes the list. -/
def textsQ (l : List ByteArray) : Bool := decide (l.length ≤ 40) && l.all fun s => decide (s.size ≤ 60)
def textsR (l : List ByteArray) : ByteArray := bif textsQ l then textsB l else ⟨#[]⟩
theorem textsQ_big {l : List ByteArray} {k : Nat} (h : k < l.length) (hb : 60 < l[k].size) : textsQ l = false := by
  unfold textsQ
  have : (l.all fun s => decide (s.size ≤ 60)) = false := by
    rw [List.all_eq_false]
    exact ⟨l[k], List.getElem_mem h, by simp; omega⟩
  rw [this, Bool.and_false]
theorem textsQ_long {l : List ByteArray} (h : 40 < l.length) : textsQ l = false := by
  unfold textsQ
  rw [show decide (l.length ≤ 40) = false from by simp; omega, Bool.false_and]
theorem textsQ_good {l : List ByteArray} (h : l.length ≤ 40) (k : ∀ j (h : j < l.length), l[j].size ≤ 60) : textsQ l = true := by
  unfold textsQ
  rw [show decide (l.length ≤ 40) = true from by simp; omega, Bool.true_and, List.all_eq_true]
  intro x hx
  obtain ⟨j, hj, rfl⟩ := List.getElem_of_mem hx
  simpa using k j hj

set_option maxRecDepth 100000 in
/-- spec.TextsBytes -/
theorem expTextsBytesS_any (v : Value) (l : List ByteArray) (hl : l.length ≤ 1048576) (hs : sumSize l ≤ 1048576) (w : World) (h : StrRow w v l) :
    Calls Try.prog 16 #[v] w fun e w' => e = .returned (.tuple #[.string (textsR l), .bool (textsQ l)]) ∧ Below w.heap.size w w' := by
  have Hc := Lib.hid (l1TextsB_any v l hl hs w h)
  obtain ⟨p, c, rfl, r⟩ := h
  have R := Lib.hid r
  clear r
  obtain ⟨n, hn⟩ : ∃ n : Nat, l.length = n := ⟨_, rfl⟩
  have Hn := Lib.hid hn
  rw [hn] at Hc ⊢
  have hnb : (n : Int) ≤ 1048576 := by omega
  clear hn hl
  have Hs := Lib.hid hs
  clear hs
  go_enter Try.func16, Try.ntmps16
  go_wp2
  go_loop [8] (fun i => ∃ k : Nat, i = .int .i64 (k : Int) ∧ k ≤ n ∧ Hid (∀ j (h : j < l.length), j < k → l[j].size ≤ 60)) (fun i => n - (intOf i).toNat)
  case atStart => exact ⟨0, rfl, Nat.zero_le _, Lib.hid fun j _ h => by omega⟩
  case round =>
    obtain ⟨k, rfl, hk, Hall⟩ := hrel
    by_cases hlt : k < n
    · have hlt2 : (k : Int) < (n : Int) := by omega
      have hkl : k < l.length := by have := Hn.out; omega
      obtain ⟨g, o, rfl, hg, hc⟩ := R.out (by have := Hn.out; omega)
      have d0 := hc k hkl
      have hz := sumSize_get l k hkl
      have hz2 := Hs.out
      have Hb : Hid (60 < l[k].size → textsQ l = false) := Lib.hid (textsQ_big hkl)
      have Hnx : Hid (l[k].size ≤ 60 → ∀ j (h : j < l.length), j < k + 1 → l[j].size ≤ 60) := Lib.hid fun h j hj hjk => by
        by_cases e : j = k
        · subst e; exact h
        · exact Hall.out j hj (by omega)
      have hzI : (l[k].size : Int) ≤ 1048576 := by omega
      obtain ⟨s, es⟩ : ∃ s, l[k] = s := ⟨_, rfl⟩
      rw [es] at d0 Hb Hnx hzI
      clear hc es hkl hz hz2
      by_cases hbig : 60 < s.size
      · have hbig2 : (60 : Int) < (s.size : Int) := by omega
        have Hq := Lib.hid (Hb.out hbig)
        go_wp2
        go_ret2
        exact ⟨by unfold textsR; rw [Hq.out]; rfl, Below.refl _ _⟩
      · have hbig2 : (s.size : Int) ≤ 60 := by omega
        go_wp2
        go_round
        case rel => exact ⟨k + 1, by go_num, by omega, Lib.hid (Hnx.out (by omega))⟩
        case measure => simp [intOf]; omega
    · have hlt2 : (n : Int) ≤ (k : Int) := by omega
      obtain rfl : k = n := by omega
      by_cases hlong : 40 < k
      · have hlong2 : (40 : Int) < (k : Int) := by omega
        have Hq := Lib.hid (textsQ_long (l := l) (by have := Hn.out; omega))
        go_wp2
        go_ret2
        exact ⟨by unfold textsR; rw [Hq.out]; rfl, Below.refl _ _⟩
      · have hlong2 : (k : Int) ≤ 40 := by omega
        have Hq := Lib.hid (textsQ_good (l := l) (by have := Hn.out; omega) (fun j hj => Hall.out j hj (by have := Hn.out; omega)))
        go_wp2_with fail
        refine Hc.out.mono ?_
        rintro e w1 ⟨rfl, hb⟩
        go_wp2
        go_ret2
        exact ⟨by unfold textsR; rw [Hq.out]; rfl, hb⟩

end Go.Proofs.Ytkgnogdbojefkaa
