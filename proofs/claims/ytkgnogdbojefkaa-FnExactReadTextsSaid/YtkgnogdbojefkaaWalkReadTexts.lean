/- The law FnExactReadTexts walked: it returns true, and nothing that was there has turned. -/
import Derived.Test.YtkgnogdbojefkaaTexts2
namespace Go.Proofs.Ytkgnogdbojefkaa.fnExactReadTexts
open Go.RowKit

set_option maxRecDepth 100000 in
set_option maxHeartbeats 1600000 in
theorem walk (B : ByteArray) (at_ : Int) (hB : B.size ≤ maxLen) (w : World) : Calls Try.prog 12 #[.string B, .int .i64 at_] w fun e w' => e = .returned (.bool true) ∧ Below w.heap.size w w' := by
  unfold maxLen at hB
  by_cases hq : B.size ≤ 1048576
  · have Hc := Lib.hid (readTextsS_any B at_ hq)
    have Hd := Lib.hid (readTexts_any B at_ hq)
    have hl := readTextsR_length B at_
    generalize readTextsR B at_ = r at *
    obtain ⟨l, r1, r2⟩ := r
    have hl2 : l.length ≤ 40 := hl
    clear hl
    obtain ⟨n, hn⟩ : ∃ n : Nat, l.length = n := ⟨_, rfl⟩
    have Hn := Lib.hid hn
    have hn40 : n ≤ 40 := by omega
    have hnI : (n : Int) ≤ 40 := by omega
    clear hn hl2
    have Hm : Hid (∀ (base : Nat) (v : Value) (u : World), u.ownsRow base 9 1 v l.length (l.map Value.string) → base ≤ u.heap.size → Calls Try.prog 54 #[v, .int .i64 1] u fun e w' => e = .returned (.int .i64 (1 + (n : Int))) ∧ StrRow w' v (marksL 1 n) ∧ Below base u w') :=
      Lib.hid fun base v u h hb => (markStringS_any base 1 n v (l.map Value.string) (by decide) (by decide) (by omega) u (by rw [← Hn.out]; exact h) hb).mono fun e w' ⟨a, b, c⟩ => ⟨a, StrRow.owned (by rw [marksL_length]; exact b), c⟩
    have Hh : Hid (∀ (v : Value) (u : World), StrRow u v (marksL 1 n) → Calls Try.prog 55 #[v, .int .i64 1] u fun e w' => e = .returned (.int .i64 (1 + (n : Int))) ∧ Below u.heap.size u w') :=
      Lib.hid fun v u h => heldStringS_any 1 n v (by decide) (by decide) (by omega) u h
    have He : Hid (∀ (v1 v2 : Value) (u : World), StrRow u v1 l → StrRow u v2 l → Calls Try.prog 19 #[v1, v2] u fun e w' => e = .returned (.bool true) ∧ Below u.heap.size u w') :=
      Lib.hid fun v1 v2 u h1 h2 => eqStringS_same v1 v2 l (by have := Hn.out; omega) u h1 h2
    cases r2
    all_goals
      go_enter Try.func12, Try.ntmps12
      go_wp2_with fail
      refine (Hc.out _).mono ?_
      rintro e u1 ⟨vw, rfl, ow, k1⟩
      have sw := StrRow.owned (l := l) ow
      clear ow
      go_wp2_with fail
      refine (Hd.out _).mono ?_
      rintro e u2 ⟨vg, rfl, og, k2⟩
      have sg := StrRow.owned (l := l) og
      have Og := Lib.hid og
      clear og
      go_wp2_with fail
      refine (He.out _ _ _ sg (sw.below k2)).mono ?_
      rintro e u3 ⟨rfl, k3⟩
      have a3 := below_after k3 k2
      have og3 := own_below Og.out k3
      have hs3 := a3.size
      clear sg Og k2 k3
      go_wp2_with fail
      refine (Hm.out _ _ _ og3 hs3).mono ?_
      rintro e u4 ⟨rfl, sm, k4⟩
      have a4 := a3.trans k4
      clear og3 hs3 a3 k4
      go_wp2_with fail
      refine (Hh.out _ _ sm).mono ?_
      rintro e u5 ⟨rfl, k5⟩
      have a5 := below_after k5 a4
      have sm5 := sm.below k5
      clear sm k5 a4
      go_wp2_with fail
      refine (Hd.out _).mono ?_
      rintro e u6 ⟨vh, rfl, oh, k6⟩
      have sh := StrRow.owned (l := l) oh
      have a6 := below_after k6 a5
      have sm6 := sm5.below k6
      clear oh k6 a5 sm5
      go_wp2_with fail
      refine (He.out _ _ _ sh (sw.below a6)).mono ?_
      rintro e u7 ⟨rfl, k7⟩
      have a7 := below_after k7 a6
      have sm7 := sm6.below k7
      clear k7 a6 sm6 sh
      go_wp2_with fail
      refine (Hh.out _ _ sm7).mono ?_
      rintro e u8 ⟨rfl, k8⟩
      have a8 := below_after k8 a7
      clear k8 a7 sm7
      go_wp2
      go_ret
      exact ⟨rfl, below_after a8 k1⟩
  · go_enter Try.func12, Try.ntmps12
    go_wp2
    go_ret
    exact ⟨rfl, Below.refl _ _⟩
end Go.Proofs.Ytkgnogdbojefkaa.fnExactReadTexts
