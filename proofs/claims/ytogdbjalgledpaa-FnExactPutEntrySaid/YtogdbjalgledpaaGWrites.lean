/- GoodWrites, the parts: the closure, writeKeys. -/
import Derived.Test.YtogdbjalgledpaaRising
import Derived.Test.YtogdbjalgledpaaKit
namespace Go.Proofs.Ytogdbjalgledpaa
open Go.RowKit

/-- Whether a write's value may not be stored. -/
def badStored (x : WriteD) : Bool := !storedB x.Val x.Gone

/-- the closure of impl.GoodWrites -/
theorem gwCf_closure (x : WriteD) (zVal : x.Val.size ≤ maxLen) (w : World) : Calls Try.prog 129 #[.agg #[.string x.Key, .string x.Val, .bool x.Gone]] w fun e w' => e = .returned (.bool (badStored x)) ∧ Below w.heap.size w w' := by
  have Hc := Lib.hid (isStored_any x.Val x.Gone zVal)
  unfold badStored
  generalize storedB x.Val x.Gone = q at *
  go_enter Try.func129, Try.ntmps129
  go_wp2_with (go_at_call 130; refine (Hc.out _).mono ?_; rintro e w1 ⟨rfl, rfl⟩)
  go_ret
  exact ⟨rfl, by (repeat (first | exact Below.refl _ _ | exact below_new _ _ | refine below_setCell ?_ (by first | (simp; done) | (simp; omega) | omega) | refine below_alloc _ ?_ | refine below_drewN ?_ _ | refine below_after (by assumption) ?_ | assumption))⟩

set_option maxRecDepth 100000 in
set_option maxHeartbeats 800000 in
/-- slices.IndexFunc at the closure -/
theorem gwCf_idx (v : Value) (l : List WriteD) (hl : l.length ≤ 1048576) (w : World) (h : Rd Cod.write w v l) :
    Calls Try.prog 139 #[v, .func (.func 129) #[] #[]] w fun e w' => (∃ r : Int, e = .returned (.int .i64 r) ∧ ((0 ≤ r ∧ r ≤ 1048576 ∧ l.any badStored = true) ∨ (r = -1 ∧ l.any badStored = false))) ∧ Below w.heap.size w w' := by
  obtain ⟨p, c, rfl, _, _, r⟩ := h.form
  have R := Lib.hid r
  clear r h
  obtain ⟨n, hn⟩ : ∃ n : Nat, l.length = n := ⟨_, rfl⟩
  have Hn := Lib.hid hn
  rw [hn]
  have hnb : (n : Int) ≤ 1048576 := by omega
  clear hn hl
  go_enter Try.func139, Try.ntmps139
  go_wp2
  go_loopw [5, 8] (fun _ i wr => ∃ k : Nat, i = .int .i64 (k : Int) ∧ k ≤ n ∧ Hid (∀ j (h : j < l.length), j < k → badStored l[j] = false) ∧ Below w.heap.size w wr) (fun _ i _ => n - (intOf i).toNat)
  case atStart => exact ⟨0, rfl, Nat.zero_le _, Lib.hid fun j _ h => by omega, Below.refl _ _⟩
  case round =>
    obtain ⟨k, rfl, hk, Hall, hb⟩ := hrel
    by_cases hlt : k < n
    · have hlt2 : (k : Int) < (n : Int) := by omega
      have hkl : k < l.length := by have := Hn.out; omega
      obtain ⟨g, o, rfl, hg, hc⟩ := R.out (by have := Hn.out; omega)
      have at0 := (hc k hkl).below hg hb
      have Hb : Hid (badStored l[k] = true → l.any badStored = true) := Lib.hid fun h => List.any_eq_true.2 ⟨l[k], List.getElem_mem hkl, h⟩
      have Hnx : Hid (badStored l[k] = false → ∀ j (h : j < l.length), j < k + 1 → badStored l[j] = false) := Lib.hid fun h j hj hjk => by
        by_cases e : j = k
        · subst e; exact h
        · exact Hall.out j hj (by omega)
      obtain ⟨x, es⟩ : ∃ x, l[k] = x := ⟨_, rfl⟩
      rw [es] at at0 Hb Hnx
      clear hc es hkl
      obtain ⟨d0, d1, d2, zKey, zVal⟩ := at_write at0
      rw [show o + k * Cod.write.size = o + k * 3 from rfl] at *
      clear at0
      have Hc := Lib.hid (gwCf_closure x zVal)
      generalize badStored x = b at *
      cases b
      · go_wp2_with fail
        refine (Hc.out _).mono ?_
        rintro e w1 ⟨rfl, k1⟩
        go_wp2
        go_roundw
        case rel => exact ⟨k + 1, by go_num, by omega, Lib.hid (Hnx.out (by first | rfl | trivial)), below_after k1 hb⟩
        case measure => simp [intOf]; omega
      · have Hq := Lib.hid (Hb.out (by first | rfl | trivial))
        go_wp2_with fail
        refine (Hc.out _).mono ?_
        rintro e w1 ⟨rfl, k1⟩
        go_wp2
        go_ret
        exact ⟨⟨_, rfl, Or.inl ⟨by omega, by omega, Hq.out⟩⟩, below_after k1 hb⟩
    · have hlt2 : (n : Int) ≤ (k : Int) := by omega
      obtain rfl : k = n := by omega
      have Hq : Hid (l.any badStored = false) := Lib.hid (List.any_eq_false.2 fun x hx => by
        obtain ⟨j, hj, rfl⟩ := List.getElem_of_mem hx
        rw [Hall.out j hj (by have := Hn.out; omega)]
        simp)
      go_wp2
      go_ret
      exact ⟨⟨_, rfl, Or.inr ⟨rfl, Hq.out⟩⟩, hb⟩

/-- slices.ContainsFunc at the closure -/
theorem gwCf_any (v : Value) (l : List WriteD) (hl : l.length ≤ 1048576) (w : World) (h : Rd Cod.write w v l) :
    Calls Try.prog 128 #[v, .func (.func 129) #[] #[]] w fun e w' => e = .returned (.bool (l.any badStored)) ∧ Below w.heap.size w w' := by
  have Hc := Lib.hid (gwCf_idx v l hl w h)
  generalize l.any badStored = b at *
  go_enter Try.func128, Try.ntmps128
  go_wp2_with fail
  refine Hc.out.mono ?_
  rintro e w1 ⟨⟨r, rfl, hr⟩, k1⟩
  rcases hr with ⟨h0, h1, ha⟩ | ⟨rfl, ha⟩
  · have Ha := Lib.hid ha
    clear ha
    go_wp2
    go_ret
    exact ⟨ret_bool (by first | (rw [Ha.out]; done) | (rw [Ha.out]; simp; omega)), k1⟩
  · have Ha := Lib.hid ha
    clear ha
    go_wp2
    go_ret
    exact ⟨ret_bool (by first | (rw [Ha.out]; done) | (rw [Ha.out]; simp)), k1⟩

set_option maxRecDepth 100000 in
set_option maxHeartbeats 800000 in
/-- impl.writeKeys -/
theorem writeKeys_any (v : Value) (l : List WriteD) (hl : l.length ≤ 1048576) (w : World) (h : Rd Cod.write w v l) :
    Calls Try.prog 127 #[v] w fun e w' => ∃ v', e = .returned v' ∧ Own Cod.str w' w.heap.size v' (l.map fun x => x.Key) ∧ Below w.heap.size w w' := by
  obtain ⟨i0, hi, hz0, hz1, hz2⟩ := info_parts Try_info_str
  obtain ⟨p, c, rfl, _, _, r⟩ := h.form
  have R := Lib.hid r
  clear r h
  obtain ⟨n, hn⟩ : ∃ n : Nat, l.length = n := ⟨_, rfl⟩
  have Hn := Lib.hid hn
  rw [hn]
  have hnb : (n : Int) ≤ 1048576 := by omega
  clear hn hl
  go_enter Try.func127, Try.ntmps127
  go_wp2
  go_loopw [3, 9] (fun a i wr => ∃ k : Nat, i = .int .i64 (k : Int) ∧ k ≤ n ∧ Hid (Part Cod.str wr w.heap.size 9 a k ((l.map fun x => x.Key).take k)) ∧ Below w.heap.size w wr) (fun _ i _ => n - (intOf i).toNat)
  case atStart => exact ⟨0, rfl, Nat.zero_le _, Lib.hid ⟨_, part_start (World.ownsRow_made _ _ _ (Nat.le_refl _) (by simp) rfl)⟩, below_new _ _⟩
  case round =>
    obtain ⟨k, rfl, hk, Hp, hb⟩ := hrel
    have hbs := hb.size
    by_cases hlt : k < n
    · have hlt2 : (k : Int) < (n : Int) := by omega
      have hkl : k < l.length := by have := Hn.out; omega
      have Hkl : Hid (((l.map fun x => x.Key).take k).length = k) := Lib.hid (by rw [List.length_take, List.length_map]; omega)
      obtain ⟨g, o, rfl, hg, hc⟩ := R.out (by have := Hn.out; omega)
      have at0 := (hc k hkl).below hg hb
      have Ht : Hid ((l.map fun x => x.Key).take (k + 1) = (l.map fun x => x.Key).take k ++ [l[k].Key]) := Lib.hid (by rw [List.take_succ_eq_append_getElem (by rw [List.length_map]; exact hkl), List.getElem_map])
      obtain ⟨x, es⟩ : ∃ x, l[k] = x := ⟨_, rfl⟩
      rw [es] at at0 Ht
      clear hc es hkl
      obtain ⟨d0, d1, d2, z0, z1⟩ := at_write at0
      rw [show o + k * Cod.write.size = o + k * 3 from rfl] at *
      clear at0 z1
      have Hroom : Hid ((k + 1) * 16 ≤ room) := Lib.hid (by unfold room; omega)
      obtain ⟨cells, Pc⟩ := Hp.out
      have Pc := Lib.hid Pc
      clear Hp
      go_wp2_with (at_builtin; refine wpList_append_part (c := Cod.str) (wr.alloc (.cells #[.string x.Key, .string x.Val, .bool x.Gone] 112)) rfl _ _ 37 (by rfl) w.heap.size 9 9 i0 (.string ⟨#[]⟩) 16 Try.underlying37 hi hz0 hz1 hz2 rfl (by decide) (by decide) wr _ k _ cells (by rfl) Pc.out Hkl.out (below_new _ _) x.Key [] [.string x.Key] rfl ⟨rfl, z0, rfl⟩ (Mine.nil _ _) (wr.heap.size + 1) (by simp) (by rfl) (by simp [Value.oneCell']) Hroom.out hbs ?_)
      intro g' cap' w3 hp3 hb3
      have Hp3 := Lib.hid hp3
      have hb4 : Below w.heap.size w w3 := (below_alloc _ hb).trans hb3
      clear hp3 hb3 Pc
      go_wp2
      go_roundw
      case rel => exact ⟨k + 1, by go_num, by omega, Lib.hid (by rw [Ht.out]; exact Hp3.out), hb4⟩
      case measure => simp [intOf]; omega
    · have hlt2 : (n : Int) ≤ (k : Int) := by omega
      obtain rfl : k = n := by omega
      go_wp2
      go_ret
      refine ⟨_, rfl, ?_, hb⟩
      have h1 := Hp.out
      rw [List.take_of_length_le (by rw [List.length_map]; have := Hn.out; omega)] at h1
      exact h1.own (by rw [List.length_map]; exact Hn.out)

end Go.Proofs.Ytogdbjalgledpaa
