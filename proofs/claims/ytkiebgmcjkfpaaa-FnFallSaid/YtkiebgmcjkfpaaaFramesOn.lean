/- FramesOn, both. -/
import Derived.Test.YtkiebgmcjkfpaaaMend
import Derived.Test.YtkiebgmcjkfpaaaKit
import Derived.Deep.Onto
namespace Go.Proofs.Ytkiebgmcjkfpaaa
open Go.RowKit

noncomputable def onL (x y : ByteArray) : List ByteArray := bif diskB x y then (framesF ((x ++ y).size + 1) (x ++ y) 0).1 else []
noncomputable def onA (x y : ByteArray) : Int := bif diskB x y then ((framesF ((x ++ y).size + 1) (x ++ y) 0).2 : Int) else 0
/-- What FramesOn says. -/
def OnPost (x y : ByteArray) (w : World) (e : Ending) (w' : World) : Prop :=
  ∃ v, e = .returned (.tuple #[v, .int .i64 (onA x y), .bool (diskB x y)]) ∧ w'.ownsRow w.heap.size 9 1 v (onL x y).length ((onL x y).map Value.string) ∧ Below w.heap.size w w'
theorem framesF_len' (B : ByteArray) : ∀ k st, st ≤ B.size → (framesF k B st).1.length + st ≤ B.size := by
  intro k
  induction k with
  | zero => intro st h; show 0 + st ≤ _; omega
  | succ k ih =>
    intro st h
    cases hf : frameOf B st with
    | none => rw [framesF_none (Nat.succ_pos _) hf]; show 0 + st ≤ _; omega
    | some sp =>
      obtain ⟨s, p⟩ := sp
      obtain ⟨h1, h2⟩ := frameOf_lt hf
      rw [framesF_some (Nat.succ_pos _) hf, show k.succ - 1 = k from rfl]
      have := ih p h2
      simp only [List.length_cons]
      omega
theorem onL_len (x y : ByteArray) : (onL x y).length ≤ 50000 := by
  unfold onL
  cases hq : diskB x y
  · exact Nat.zero_le _
  · have hs : x.size + y.size ≤ 50000 := by unfold diskB at hq; simpa using hq
    have := framesF_len' (x ++ y) ((x ++ y).size + 1) 0 (Nat.zero_le _)
    rw [ByteArray.size_append] at this
    show ((framesF ((x ++ y).size + 1) (x ++ y) 0).1).length ≤ 50000
    rw [ByteArray.size_append]
    omega

set_option maxRecDepth 100000 in
set_option maxHeartbeats 1600000 in
/-- impl.FramesOn -/
theorem framesOn_any (x y : ByteArray) (hx : x.size ≤ 1048576) (hy : y.size ≤ 1048576) (w : World) :
    Calls Try.prog 34 #[.agg #[.string x, .string y]] w (OnPost x y w) := by
  unfold OnPost
  have Hc := Lib.hid (goodDisk_any x y (by omega) (by omega))
  cases hq : diskB x y
  · rw [hq] at Hc
    have hl : onL x y = [] := by unfold onL; rw [hq]; rfl
    have ha : onA x y = 0 := by unfold onA; rw [hq]; rfl
    rw [hl, ha]
    clear hq hl ha
    go_enter Try.func34, Try.ntmps34
    go_wp2_with (go_at_call 82; refine (Hc.out _).mono ?_; rintro e w1 ⟨rfl, k⟩)
    go_ret3
    exact ⟨_, rfl, World.ownsRow_nil _ _ _ _, by (repeat (first | (with_reducible exact Below.refl _ _) | (with_reducible refine below_setCell ?_ (by first | (simp; done) | (simp; omega) | omega)) | (with_reducible refine below_alloc _ ?_) | (with_reducible refine below_drewN ?_ _) | (with_reducible assumption) | (with_reducible refine below_after (by assumption) ?_)))⟩
  · rw [hq] at Hc
    have hs : x.size + y.size ≤ 50000 := by unfold diskB at hq; simpa using hq
    have Hd := Lib.hid (framesOf_any (x ++ y) (by rw [ByteArray.size_append]; omega))
    unfold FramesPost at Hd
    have hl : onL x y = (framesF ((x ++ y).size + 1) (x ++ y) 0).1 := by unfold onL; rw [hq]; rfl
    have ha : onA x y = ((framesF ((x ++ y).size + 1) (x ++ y) 0).2 : Int) := by unfold onA; rw [hq]; rfl
    rw [hl, ha]
    clear hq hl ha
    generalize framesF ((x ++ y).size + 1) (x ++ y) 0 = F at *
    have hadd := fun W => run_string_add_sum (P := Try.prog) (w := W) x y (by omega)
    generalize hxy : x ++ y = z at *
    clear hxy
    go_enter Try.func34, Try.ntmps34
    go_wp2_with fail
    refine (Hc.out _).mono ?_
    rintro e w1 ⟨rfl, k⟩
    have hx1 := bcell k
    have c0 : w1.cell? ⟨w.heap.size, 0, none⟩ = some (.string x) := by rw [hx1.1 _ _ (by simp)]; simp [go_sem]
    have c1 : w1.cell? ⟨w.heap.size, 1, none⟩ = some (.string y) := by rw [hx1.1 _ _ (by simp)]; simp [go_sem]
    have b1 : Below w.heap.size w w1 := below_after k (by (repeat (first | (with_reducible exact Below.refl _ _) | (with_reducible refine below_setCell ?_ (by first | (simp; done) | (simp; omega) | omega)) | (with_reducible refine below_alloc _ ?_) | (with_reducible refine below_drewN ?_ _) | (with_reducible assumption) | (with_reducible refine below_after (by assumption) ?_))))
    have hs1 := b1.size
    clear hx1 k
    go_wp2_with fail
    refine (Hd.out _).mono ?_
    rintro e w2 ⟨v, rfl, hown, k2⟩
    have Ho := Lib.hid hown
    clear hown
    go_wp2
    go_ret3
    exact ⟨_, rfl, Ho.out.mono hs1, below_after k2 b1⟩

end Go.Proofs.Ytkiebgmcjkfpaaa
