/- ReadNum, both. -/
import Derived.Test.YtkgnogdbojefkaaSource3
namespace Go.Proofs.Ytkgnogdbojefkaa
open Go.RowKit

theorem num_unique {l : List UInt8} {n m : Nat} (h : IsNum l n) (k : IsNum l m) : n = m := by
  have hp : numL n <+: numL m ∨ numL m <+: numL n := by
    rcases Nat.le_total (numL n).length (numL m).length with hl | hl
    · exact Or.inl (List.prefix_of_prefix_length_le h.2 k.2 hl)
    · exact Or.inr (List.prefix_of_prefix_length_le k.2 h.2 hl)
  have key : ∀ a b : Nat, numL a <+: numL b → a = b := fun a b hab => by
    obtain ⟨i, z, e, h2, h3⟩ := numL_shape a
    obtain ⟨r, hr⟩ := hab
    have hi : i.length < (numL b).length := by rw [← hr, e]; simp
    have ht : ∀ x ∈ (numL b).take i.length, 128 ≤ x.toNat := by
      intro x hx
      rw [← hr, e] at hx
      simp at hx
      exact h2 x hx
    have hz : (numL b)[i.length].toNat < 128 := by
      have e2 : numL b = i ++ ([z] ++ r) := by rw [← hr, e]; simp
      simp only [e2]
      rw [List.getElem_append_right (Nat.le_refl _)]
      simpa using h3
    have h4 := num_exact (List.prefix_rfl : numL b <+: numL b) ht hi hz
    have h5 : numL a = numL b := by
      have h6 : (numL b).length = i.length + 1 := by
        have := congrArg List.length h4
        rw [List.length_take, Nat.min_eq_left hi] at this
        exact this
      have h7 : r = [] := by
        have := congrArg List.length hr
        rw [e] at this
        simp at this
        exact List.eq_nil_of_length_eq_zero (by omega)
      rw [← hr, h7, List.append_nil]
    rw [← decL_numL a, ← decL_numL b, h5]
  rcases hp with hp | hp
  · exact key _ _ hp
  · exact (key _ _ hp).symm

/-- The number with which bytes begin. -/
noncomputable def numOf (l : List UInt8) : Option Nat := by
  classical
  exact if h : ∃ n, IsNum l n then some (Classical.choose h) else none
theorem numOf_some {l : List UInt8} {n : Nat} (h : IsNum l n) : numOf l = some n := by
  unfold numOf
  have hx : ∃ n, IsNum l n := ⟨n, h⟩
  rw [dif_pos hx]
  exact congrArg some (num_unique (Classical.choose_spec hx) h)
theorem numOf_none {l : List UInt8} (h : ∀ n, ¬ IsNum l n) : numOf l = none := by
  unfold numOf
  rw [dif_neg (fun ⟨n, hn⟩ => h n hn)]

def placeB (B : ByteArray) (at_ most : Int) : Bool := decide ((B.size : Int) ≤ most) && inB at_ 0 B.size

/-- impl.sourceAt -/
theorem sourceAt_any (B : ByteArray) (at_ most : Int) (hB : B.size ≤ 1048576) (w : World) :
    Calls Try.prog 76 #[.string B, .int .i64 at_, .int .i64 most] w fun e w' => e = .returned (.tuple #[.pointer (some ⟨w.heap.size, 0, none⟩), .bool (placeB B at_ most)]) ∧ w.alloc (.cells #[.string B, .int .i64 at_, .bool false] 103) = w' := by
  have Hc := Lib.hid (within_any at_ 0 B.size)
  unfold placeB
  generalize inB at_ 0 B.size = r at *
  by_cases h : (B.size : Int) ≤ most
  · have hd : decide ((B.size : Int) ≤ most) = true := by simp [h]
    go_enter Try.func76, Try.ntmps76
    go_wp2_with (go_at_call 83; refine (Hc.out _).mono ?_; rintro e w1 ⟨rfl, rfl⟩)
    go_ret2
    exact ⟨by simp [hd], rfl⟩
  · have hd : decide ((B.size : Int) ≤ most) = false := by simp; omega
    go_enter Try.func76, Try.ntmps76
    go_wp2
    go_ret2
    exact ⟨by simp [hd], rfl⟩

/-- spec.l1Place -/
theorem l1Place_any (B : ByteArray) (at_ : Int) (hB : B.size ≤ 1048576) (w : World) :
    Calls Try.prog 74 #[.string B, .int .i64 at_] w fun e w' => e = .returned (.bool (placeB B at_ 6000)) ∧ w = w' := by
  have Hc := Lib.hid (l1In_any at_ 0 B.size)
  unfold placeB
  generalize inB at_ 0 B.size = r at *
  by_cases h : (B.size : Int) ≤ 6000
  · have hd : decide ((B.size : Int) ≤ 6000) = true := by simp [h]
    go_enter Try.func74, Try.ntmps74
    go_wp2_with (go_at_call 78; refine (Hc.out _).mono ?_; rintro e w1 ⟨rfl, rfl⟩)
    go_ret
    exact ⟨ret_bool (by simp [hd]), rfl⟩
  · have hd : decide ((B.size : Int) ≤ 6000) = false := by simp; omega
    go_enter Try.func74, Try.ntmps74
    go_wp2
    go_ret
    exact ⟨ret_bool (by simp [hd]), rfl⟩

theorem src_new (w : World) (B : ByteArray) (st : Nat) (T : TypeId) : SrcAt (w.alloc (.cells #[.string B, .int .i64 (st : Int), .bool false] T)) w.heap.size B st false :=
  ⟨by simp [go_sem], by simp [go_sem], by simp [go_sem], by simp [go_sem], by simp [go_sem]⟩

/-- What ReadNum returns. -/
noncomputable def readNumR (B : ByteArray) (at_ : Int) : Int × Int × Bool :=
  match placeB B at_ 6000, numOf (B.data.toList.drop at_.toNat) with
  | true, some n => ((n : Int), at_ + (numL n).length, true)
  | _, _ => (0, 0, false)

theorem grown_new {w w' : World} {o : Obj} (k : (w.alloc o).grownBy w' (some w.heap.size)) : Below w.heap.size w w' :=
  (below_new w o).trans (Below.grown (Below.refl _ _) k (by simp) (fun b hb => by injection hb with hb; omega))

/-- impl.ReadNum -/
theorem readNum_any (B : ByteArray) (at_ : Int) (hB : B.size ≤ 1048576) (w : World) :
    Calls Try.prog 21 #[.string B, .int .i64 at_] w fun e w' => e = .returned (.tuple #[.int .i64 (readNumR B at_).1, .int .i64 (readNumR B at_).2.1, .bool (readNumR B at_).2.2]) ∧ Below w.heap.size w w' := by
  have Hc := Lib.hid (sourceAt_any B at_ 6000 hB)
  cases hq : placeB B at_ 6000
  · have Hr : Hid (readNumR B at_ = (0, 0, false)) := Lib.hid (by unfold readNumR; rw [hq])
    rw [hq] at Hc
    generalize readNumR B at_ = r at *
    obtain rfl := Hr.out
    clear Hr hq
    go_enter Try.func21, Try.ntmps21
    go_wp2_with (go_at_call 76; refine (Hc.out _).mono ?_; rintro e w1 ⟨rfl, rfl⟩)
    go_ret3
    exact ⟨rfl, below_new _ _⟩
  · have hp := hq
    unfold placeB at hp
    rw [Bool.and_eq_true] at hp
    obtain ⟨h0, h1⟩ := inB_iff.1 hp.2
    obtain ⟨st, rfl⟩ := Int.eq_ofNat_of_zero_le h0
    have hst : st ≤ B.size := by omega
    rw [hq] at Hc
    clear hp h0 h1
    have Hq := Lib.hid hq
    clear hq
    go_enter Try.func21, Try.ntmps21
    go_wp2_with (go_at_call 76; refine (Hc.out _).mono ?_; rintro e w1 ⟨rfl, rfl⟩)
    refine (num_any _ w.heap.size st B (src_new w B st _) hst hB).mono ?_
    rintro e w1 (⟨n, hn, rfl, hs, hg⟩ | ⟨hn, rfl, ⟨a, ha, hs⟩, hg⟩)
    · have Hr : Hid (readNumR B st = ((n : Int), (st : Int) + (numL n).length, true)) := Lib.hid (by unfold readNumR; rw [Hq.out, Int.toNat_natCast, numOf_some hn])
      have hs' := hs
      obtain ⟨d0, d1, d2, g1, g2⟩ := hs'
      go_wp2
      go_quiet (fail)
      go_wp2
      go_ret3
      exact ⟨by rw [Hr.out]; rfl, below_drewN (grown_new hg) _⟩
    · have Hr : Hid (readNumR B st = (0, 0, false)) := Lib.hid (by unfold readNumR; rw [Int.toNat_natCast, numOf_none hn]; cases placeB B st 6000 <;> rfl)
      have hs' := hs
      obtain ⟨d0, d1, d2, g1, g2⟩ := hs'
      go_wp2
      go_ret3
      exact ⟨by rw [Hr.out]; rfl, grown_new hg⟩

/-- spec.ReadNum -/
theorem readNumS_any (B : ByteArray) (at_ : Int) (hB : B.size ≤ 1048576) (w : World) :
    Calls Try.prog 20 #[.string B, .int .i64 at_] w fun e w' => e = .returned (.tuple #[.int .i64 (readNumR B at_).1, .int .i64 (readNumR B at_).2.1, .bool (readNumR B at_).2.2]) ∧ Below w.heap.size w w' := by
  have Hc := Lib.hid (l1Place_any B at_ hB)
  cases hq : placeB B at_ 6000
  · have Hr : Hid (readNumR B at_ = (0, 0, false)) := Lib.hid (by unfold readNumR; rw [hq])
    rw [hq] at Hc
    generalize readNumR B at_ = r at *
    obtain rfl := Hr.out
    clear Hr hq
    go_enter Try.func20, Try.ntmps20
    go_wp2_with (go_at_call 74; refine (Hc.out _).mono ?_; rintro e w1 ⟨rfl, rfl⟩)
    go_ret3
    exact ⟨rfl, Below.refl _ _⟩
  · have hp := hq
    unfold placeB at hp
    rw [Bool.and_eq_true] at hp
    obtain ⟨h0, h1⟩ := inB_iff.1 hp.2
    obtain ⟨st, rfl⟩ := Int.eq_ofNat_of_zero_le h0
    have hst : st ≤ B.size := by omega
    rw [hq] at Hc
    clear hp h0 h1
    have Hq := Lib.hid hq
    clear hq
    go_enter Try.func20, Try.ntmps20
    go_wp2_with (go_at_call 74; refine (Hc.out _).mono ?_; rintro e w1 ⟨rfl, rfl⟩)
    refine (numS_any _ w.heap.size st B (src_new w B st _) hst hB).mono ?_
    rintro e w1 (⟨n, hn, rfl, hs, hg⟩ | ⟨hn, rfl, ⟨a, ha, hs⟩, hg⟩)
    · have Hr : Hid (readNumR B st = ((n : Int), (st : Int) + (numL n).length, true)) := Lib.hid (by unfold readNumR; rw [Hq.out, Int.toNat_natCast, numOf_some hn])
      have hs' := hs
      obtain ⟨d0, d1, d2, g1, g2⟩ := hs'
      go_wp2
      go_quiet (fail)
      go_wp2
      go_ret3
      exact ⟨by rw [Hr.out]; rfl, below_drewN (grown_new hg) _⟩
    · have Hr : Hid (readNumR B st = (0, 0, false)) := Lib.hid (by unfold readNumR; rw [Int.toNat_natCast, numOf_none hn]; cases placeB B st 6000 <;> rfl)
      have hs' := hs
      obtain ⟨d0, d1, d2, g1, g2⟩ := hs'
      go_wp2
      go_ret3
      exact ⟨by rw [Hr.out]; rfl, grown_new hg⟩

end Go.Proofs.Ytkgnogdbojefkaa
