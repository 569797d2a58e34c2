/- The law FnExactTextsBytes walked: it returns true, and nothing that was there has turned. -/
import Derived.Test.YtkgnogdbojefkaaTextsC
import Derived.Test.YtkgnogdbojefkaaArgs
namespace Go.Proofs.Ytkgnogdbojefkaa.fnExactTextsBytes
open Go.RowKit

set_option maxRecDepth 100000 in
set_option maxHeartbeats 1600000 in
theorem walk (v : Value) (l : List ByteArray) (hl : l.length ≤ maxLen) (hz : ∀ k (h : k < l.length), l[k].size ≤ maxLen) (w : World) (s : StrRow w v l) : Calls Try.prog 3 #[v] w fun e w' => e = .returned (.bool true) ∧ Below w.heap.size w w' := by
  have Hs := Lib.hid (szStringS_any v l 1048576 (by decide) (by decide) hl hz w s)
  have Hl : Hid (0 ≤ (1048576 : Int) - (l.length : Int) - (sumSize l : Int) → l.length ≤ 1048576 ∧ sumSize l ≤ 1048576) := Lib.hid fun h => by omega
  unfold SzPost at Hs
  generalize (1048576 : Int) - (l.length : Int) - (sumSize l : Int) = z at *
  clear hl hz
  go_enter Try.func3, Try.ntmps3
  go_wp2_with fail
  refine Hs.out.mono ?_
  rintro e w1 ⟨rfl, ⟨rfl, hz⟩ | ⟨rfl, hz⟩⟩
  · have Hb := Lib.hid (Hl.out hz)
    go_wp2_with fail
    refine (toStringS_any v l Hb.out.1 _ s).mono ?_
    rintro e u1 ⟨v1, rfl, o1, k1⟩
    have s1 := s.below k1
    have a1 := StrRow.owned o1
    clear o1
    go_wp2_with fail
    refine (expTextsBytesS_any v1 l Hb.out.1 Hb.out.2 _ a1).mono ?_
    rintro e u2 ⟨rfl, k2⟩
    have s2 := s1.below k2
    have b2 := below_after k2 k1
    clear s1 k1 k2 a1
    go_wp2_with fail
    refine (toStringS_any v l Hb.out.1 _ s2).mono ?_
    rintro e u3 ⟨v3, rfl, o3, k3⟩
    have s3 := s2.below k3
    have a3 := StrRow.owned o3
    have b3 := below_after k3 b2
    clear s2 o3 k3 b2
    go_wp2_with fail
    refine (expTextsBytes_any v3 l Hb.out.1 Hb.out.2 _ a3).mono ?_
    rintro e u4 ⟨rfl, k4⟩
    have s4 := s3.below k4
    have a4 := a3.below k4
    have b4 := below_after k4 b3
    clear s3 a3 k4 b3
    have Hv := Lib.hid (fun u : World => toStringS_any v l Hb.out.1 u)
    have He := Lib.hid (fun (v1 v2 : Value) (u : World) => eqStringS_same v1 v2 l (by have := Hb.out.1; omega) u)
    generalize textsR l = tr at *
    generalize textsQ l = tq at *
    cases tq
    all_goals
      go_wp2_with fail
      refine (Hv.out _ s4).mono ?_
      rintro e u5 ⟨v5, rfl, o5, k5⟩
      have a5 := a4.below k5
      have c5 := StrRow.owned o5
      have b5 := below_after k5 b4
      clear o5 k5 b4
      go_wp2_with fail
      refine (He.out _ _ _ a5 c5).mono ?_
      rintro e u6 ⟨rfl, k6⟩
      have b6 := below_after k6 b5
      clear k6 b5
      go_wp2
      go_ret
      exact ⟨rfl, b6⟩
  · go_wp2
    go_ret
    exact ⟨rfl, Below.refl _ _⟩

end Go.Proofs.Ytkgnogdbojefkaa.fnExactTextsBytes
