/- The law FnExactFramesOn walked: it returns true, and nothing that was there has turned. -/
import Derived.Test.YtekgackednpdgaaFramesOn
import Derived.Test.YtekgackednpdgaaDisk2
namespace Go.Proofs.Ytekgackednpdgaa.fnExactFramesOn
open Go.RowKit

set_option maxRecDepth 100000 in
set_option maxHeartbeats 3200000 in
theorem walk (x y : ByteArray) (hx : x.size ≤ maxLen) (hy : y.size ≤ maxLen) (w : World) : Calls Try.prog 6 #[.agg #[.string x, .string y]] w fun e w' => e = .returned (.bool true) ∧ Below w.heap.size w w' := by
  have Hs := Lib.hid (szDisk_any x y 1048576 hx hy (by omega))
  have hc : szDiskF x y 1048576 < 0 ∨ (0 ≤ szDiskF x y 1048576 ∧ szDiskF x y 1048576 ≤ 1048576 ∧ x.size ≤ 1048576 ∧ y.size ≤ 1048576) := by
    unfold szDiskF
    by_cases h1 : (1048576 : Int) - x.size < 0
    · rw [if_pos h1]; omega
    · rw [if_neg h1]
      by_cases h2 : (1048576 : Int) - x.size - y.size < 0
      · rw [if_pos h2]; omega
      · rw [if_neg h2]; omega
  generalize szDiskF x y 1048576 = z at *
  rcases hc with hc | ⟨h0, h3, h1, h2⟩
  · go_enter Try.func6, Try.ntmps6
    go_wp2_with (go_at_call 28; refine (Hs.out _).mono ?_; rintro e w1 ⟨rfl, k⟩; have hx := bcell k; have hz := k.size)
    go_ret
    exact ⟨rfl, by (repeat (first | exact Below.refl _ _ | exact below_new _ _ | refine below_setCell ?_ (by first | (simp; done) | (simp; omega) | omega) | refine below_alloc _ ?_ | refine below_drewN ?_ _ | refine below_after (by assumption) ?_ | assumption))⟩
  · have Hd := Lib.hid (framesOnS_any x y h1 h2)
    have HI := Lib.hid (framesOn_any x y h1 h2)
    have hlen := onL_len x y
    unfold OnPost at Hd HI
    clear h1 h2
    generalize onA x y = at_ at *
    generalize diskB x y = q at *
    generalize onL x y = l at *
    obtain ⟨n, hn⟩ : ∃ n : Nat, l.length = n := ⟨_, rfl⟩
    have Hn := Lib.hid hn
    have hn40 : n ≤ 50000 := by omega
    have hnI : (n : Int) ≤ 50000 := by omega
    clear hn hlen
    have Hm : Hid (∀ (base : Nat) (v : Value) (u : World), u.ownsRow base 9 1 v l.length (l.map Value.string) → base ≤ u.heap.size → Calls Try.prog 36 #[v, .int .i64 1] u fun e w' => e = .returned (.int .i64 (1 + (n : Int))) ∧ StrRow w' v (marksL 1 n) ∧ Below base u w') :=
      Lib.hid fun base v u h hb => (markStringS_any base 1 n v (l.map Value.string) (by decide) (by decide) (by omega) u (by rw [← Hn.out]; exact h) hb).mono fun e w' ⟨a, b, c⟩ => ⟨a, StrRow.owned (by rw [marksL_length]; exact b), c⟩
    have Hh : Hid (∀ (v : Value) (u : World), StrRow u v (marksL 1 n) → Calls Try.prog 37 #[v, .int .i64 1] u fun e w' => e = .returned (.int .i64 (1 + (n : Int))) ∧ Below u.heap.size u w') :=
      Lib.hid fun v u h => heldStringS_any 1 n v (by decide) (by decide) (by omega) u h
    have He : Hid (∀ (v1 v2 : Value) (u : World), StrRow u v1 l → StrRow u v2 l → Calls Try.prog 35 #[v1, v2] u fun e w' => e = .returned (.bool true) ∧ Below u.heap.size u w') :=
      Lib.hid fun v1 v2 u h1 h2 => eqStringS_same v1 v2 l (by have := Hn.out; omega) u h1 h2
    cases q
    all_goals
      go_enter Try.func6, Try.ntmps6
      go_wp2_with fail
      refine (Hs.out _).mono ?_
      rintro e u1 ⟨rfl, k1⟩
      have m1 : Below w.heap.size w u1 := below_after k1 (by (repeat (first | (with_reducible exact Below.refl _ _) | (with_reducible refine below_setCell ?_ (by first | (simp; done) | (simp; omega) | omega)) | (with_reducible refine below_alloc _ ?_) | (with_reducible refine below_drewN ?_ _) | (with_reducible assumption) | (with_reducible refine below_after (by assumption) ?_))))
      have q1_0 : w.heap.size < u1.heap.size := by have := k1.size; first | (simp at this; omega) | omega
      have c0 : u1.cell? ⟨w.heap.size, 0, none⟩ = some (.string x) := by rw [(bcell k1).1 _ _ (by first | (simp; done) | (simp; omega))]; simp [go_sem]
      have c1 : u1.cell? ⟨w.heap.size, 1, none⟩ = some (.string y) := by rw [(bcell k1).1 _ _ (by first | (simp; done) | (simp; omega))]; simp [go_sem]
      have b := m1
      clear m1 k1
      go_wp2_with fail
      refine (toDisk_any _ _ _).mono ?_
      rintro e u2 ⟨rfl, k2⟩
      have m2 : Below u1.heap.size u1 u2 := below_after k2 (by (repeat (first | (with_reducible exact Below.refl _ _) | (with_reducible refine below_setCell ?_ (by first | (simp; done) | (simp; omega) | omega)) | (with_reducible refine below_alloc _ ?_) | (with_reducible refine below_drewN ?_ _) | (with_reducible assumption) | (with_reducible refine below_after (by assumption) ?_))))
      replace c0 := cell_step m2 c0
      replace c1 := cell_step m2 c1
      replace q1_0 := Nat.lt_of_lt_of_le q1_0 m2.size
      replace b := m2.mono b.size |> b.trans
      clear m2 k2
      go_wp2_with fail
      refine (Hd.out _).mono ?_
      rintro e u3 ⟨vw, rfl, ow, k3⟩
      have sw := StrRow.owned (l := l) ow
      clear ow
      have m3 : Below u2.heap.size u2 u3 := below_after k3 (by (repeat (first | (with_reducible exact Below.refl _ _) | (with_reducible refine below_setCell ?_ (by first | (simp; done) | (simp; omega) | omega)) | (with_reducible refine below_alloc _ ?_) | (with_reducible refine below_drewN ?_ _) | (with_reducible assumption) | (with_reducible refine below_after (by assumption) ?_))))
      replace c0 := cell_step m3 c0
      replace c1 := cell_step m3 c1
      replace q1_0 := Nat.lt_of_lt_of_le q1_0 m3.size
      replace b := m3.mono b.size |> b.trans
      clear m3 k3
      go_wp2_with fail
      refine (toDisk_any _ _ _).mono ?_
      rintro e u4 ⟨rfl, k4⟩
      have m4 : Below u3.heap.size u3 u4 := below_after k4 (by (repeat (first | (with_reducible exact Below.refl _ _) | (with_reducible refine below_setCell ?_ (by first | (simp; done) | (simp; omega) | omega)) | (with_reducible refine below_alloc _ ?_) | (with_reducible refine below_drewN ?_ _) | (with_reducible assumption) | (with_reducible refine below_after (by assumption) ?_))))
      replace sw := sw.below m4
      replace c0 := cell_step m4 c0
      replace c1 := cell_step m4 c1
      replace q1_0 := Nat.lt_of_lt_of_le q1_0 m4.size
      replace b := m4.mono b.size |> b.trans
      clear m4 k4
      go_wp2_with fail
      refine (HI.out _).mono ?_
      rintro e x5 ⟨vg, rfl, og, a⟩
      have sg := StrRow.owned (l := l) og
      have Og := Lib.hid og
      clear og
      go_wp2_with fail
      refine (He.out _ _ _ sg (sw.below a)).mono ?_
      rintro e x6 ⟨rfl, k⟩
      have og6 := own_below Og.out k
      replace a := below_after k a
      have hs6 := a.size
      clear sg Og k
      go_wp2_with fail
      refine (Hm.out _ _ _ og6 hs6).mono ?_
      rintro e x7 ⟨rfl, sm, k⟩
      replace a := a.trans k
      clear og6 hs6 k
      go_wp2_with fail
      refine (Hh.out _ _ sm).mono ?_
      rintro e x8 ⟨rfl, k⟩
      replace a := below_after k a
      replace sm := sm.below k
      have d0 := cell_step a c0
      have d1 := cell_step a c1
      clear k
      go_wp2_with fail
      refine (toDisk_any _ _ _).mono ?_
      rintro e x9 ⟨rfl, k⟩
      replace a := below_after k a
      replace sm := sm.below k
      clear k d0 d1
      go_wp2_with fail
      refine (HI.out _).mono ?_
      rintro e y1 ⟨vh, rfl, oh, k⟩
      have sh := StrRow.owned (l := l) oh
      replace a := below_after k a
      replace sm := sm.below k
      clear oh k
      go_wp2_with fail
      refine (He.out _ _ _ sh (sw.below a)).mono ?_
      rintro e y2 ⟨rfl, k⟩
      replace a := below_after k a
      replace sm := sm.below k
      clear sh k
      go_wp2_with fail
      refine (Hh.out _ _ sm).mono ?_
      rintro e y3 ⟨rfl, k⟩
      replace a := below_after k a
      clear k sm
      go_wp2
      go_ret
      exact ⟨rfl, b.trans (a.mono b.size)⟩

end Go.Proofs.Ytekgackednpdgaa.fnExactFramesOn
