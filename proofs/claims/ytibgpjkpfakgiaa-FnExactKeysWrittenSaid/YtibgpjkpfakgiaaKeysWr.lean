/- KeysWritten, both. -/
import Derived.Test.YtibgpjkpfakgiaaKeysOf
import Derived.Test.YtibgpjkpfakgiaaTrim1
import Derived.Test.YtibgpjkpfakgiaaGoodOps
import Derived.Test.YtibgpjkpfakgiaaPick
namespace Go.Proofs.Ytibgpjkpfakgiaa
open Go.RowKit

def wkB (K : Int) : Bool := (K == 2) || ((K == 3) || (K == 4))
def wkeys (l : List OpD) : List ByteArray := (l.filter fun o => wkB o.Kind).map fun o => o.Key
theorem wkeys_snoc (l : List OpD) (x : OpD) : wkeys (l ++ [x]) = wkeys l ++ (if wkB x.Kind = true then [x.Key] else []) := by
  unfold wkeys
  rw [List.filter_append, List.map_append]
  congr 1
  cases h : wkB x.Kind <;> simp [h]
theorem wkeys_length (l : List OpD) : (wkeys l).length ≤ l.length := by
  unfold wkeys
  rw [List.length_map]
  exact List.length_filter_le _ _
theorem wkeys_cost (l : List OpD) : costStringS (wkeys l) ≤ costOpS l := by
  have h1 := wkeys_length l
  have h2 : sumC (fun s : ByteArray => s.size) (wkeys l) ≤ sumC costOp l := by
    unfold wkeys
    refine Nat.le_trans ?_ (sumC_sub costOp (List.filter_sublist (l := l) (p := fun o => wkB o.Kind)))
    generalize l.filter (fun o => wkB o.Kind) = m
    induction m with
    | nil => exact Nat.le_refl _
    | cons x m ih => unfold sumC at *; simp [costOp]; simp [costOp] at ih; omega
  unfold costStringS costOpS
  omega
theorem kind4 (K : Int) : (K = 2 ∨ K = 3 ∨ K = 4) ∨ ((K == 2) = false ∧ (K == 3) = false ∧ (K == 4) = false) := by
  by_cases h2 : K = 2
  · exact Or.inl (Or.inl h2)
  · by_cases h3 : K = 3
    · exact Or.inl (Or.inr (Or.inl h3))
    · by_cases h4 : K = 4
      · exact Or.inl (Or.inr (Or.inr h4))
      · exact Or.inr ⟨by simpa using h2, by simpa using h3, by simpa using h4⟩

/-- spec.l5Writes -/
theorem l5Writes_any (K : Int) (w : World) : Calls Try.prog 69 #[.int .i64 K] w fun e w' => e = .returned (.bool (wkB K)) ∧ w = w' := by
  unfold wkB
  rcases kind4 K with (rfl | rfl | rfl) | ⟨h2, h3, h4⟩
  all_goals
    go_enter Try.func69, Try.ntmps69
    go_wp2
    go_ret
    exact ⟨ret_bool (by first | rfl | simp_all), rfl⟩

set_option maxRecDepth 100000 in
set_option maxHeartbeats 3200000 in
/-- impl.KeysWritten -/
theorem keysWrittenX_any (v : Value) (l : List OpD) (hl : costOpS l ≤ 1048576) (w : World) (h : Rd Cod.op w v l) :
    Calls Try.prog 34 #[v] w fun e w' => ∃ v', e = .returned (.tuple #[v', .bool (goodOB l)]) ∧ Own Cod.str w' w.heap.size v' (pickL (goodOB l) (setL (wkeys l))) ∧ Below w.heap.size w w' := by
  obtain ⟨i0, hi, hz0, hz1, hz2⟩ := info_parts Try_infoP_str
  have hln : l.length ≤ 1048576 := by unfold costOpS at hl; omega
  have Hg := Lib.hid (goodOps_any v l hln w h)
  obtain ⟨p, c, rfl, _, _, r⟩ := h.form
  have R := Lib.hid r
  clear r h hl
  obtain ⟨n, hn⟩ : ∃ n : Nat, l.length = n := ⟨_, rfl⟩
  have Hn := Lib.hid hn
  have hnb : (n : Int) ≤ 1048576 := by omega
  rw [hn] at Hg ⊢
  clear hn hln
  generalize goodOB l = q at *
  cases q
  · go_enter Try.func34, Try.ntmps34
    go_wp2_with fail
    refine Hg.out.mono ?_
    rintro e w1 ⟨rfl, k1⟩
    go_wp2
    go_ret2
    exact ⟨_, rfl, own_nil _ _ _, k1⟩
  go_enter Try.func34, Try.ntmps34
  go_wp2_with fail
  refine Hg.out.mono ?_
  rintro e w1 ⟨rfl, k1⟩
  have z1 := k1.size
  go_wp2
  go_loopw [4, 13] (fun a i wr => ∃ k : Nat, i = .int .i64 (k : Int) ∧ k ≤ n ∧ Hid (Grow Cod.str wr w.heap.size 9 a (wkeys (l.take k))) ∧ Below w.heap.size w wr) (fun _ i _ => n - (intOf i).toNat)
  case atStart => exact ⟨0, rfl, Nat.zero_le _, Lib.hid ⟨_, part_start (made0 rfl z1)⟩, by (repeat (first | (with_reducible exact Below.refl _ _) | (with_reducible refine below_setCell ?_ (by first | (simp; done) | (simp; omega) | omega)) | (with_reducible refine below_alloc _ ?_) | (with_reducible refine below_drewN ?_ _) | (with_reducible assumption) | (with_reducible refine below_after (by assumption) ?_)))⟩
  case round =>
    obtain ⟨k, rfl, hk, Hp, hb⟩ := hrel
    have hbs := hb.size
    by_cases hlt : k < n
    · have hlt2 : (k : Int) < (n : Int) := by omega
      have hkl : k < l.length := by have := Hn.out; omega
      obtain ⟨g, o, rfl, hg, hc⟩ := R.out (by have := Hn.out; omega)
      have at0 := (hc k hkl).below hg hb
      have Ht := Lib.hid (wkeys_snoc (l.take k) l[k])
      have Ht2 : Hid (l.take (k + 1) = l.take k ++ [l[k]]) := Lib.hid (List.take_succ_eq_append_getElem hkl)
      have hlen := wkeys_length (l.take k)
      rw [List.length_take] at hlen
      obtain ⟨x, es⟩ : ∃ x, l[k] = x := ⟨_, rfl⟩
      rw [es] at at0 Ht Ht2
      clear hc es hkl
      obtain ⟨d0, d1, d2, d3, z0, zk, z2, z3⟩ := at_op at0
      rw [show o + k * Cod.op.size = o + k * 4 from rfl] at *
      clear at0 z0 z2 z3
      obtain ⟨xK, xKey, xVal, xBy⟩ := x
      dsimp only at *
      obtain ⟨pa, ca, rfl⟩ := Hp.out.form
      obtain ⟨cells, Pc⟩ := Hp.out
      generalize hoL : (wkeys (l.take k)).length = oL at *
      have HoL := Lib.hid hoL
      have Pc := Lib.hid Pc
      have hoI : (oL : Int) ≤ 1048576 := by omega
      have Hroom : Hid ((oL + 1) * 16 ≤ room) := Lib.hid (by unfold room; omega)
      clear Hp hoL hlen
      rcases kind4 xK with (rfl | rfl | rfl) | ⟨h2, h3, h4⟩
      rotate_right
      · have Hs : Hid (wkeys (l.take (k + 1)) = wkeys (l.take k)) := Lib.hid (by rw [Ht2.out, Ht.out, show wkB xK = false from by unfold wkB; simp [h2, h3, h4], if_neg (by simp), List.append_nil])
        go_wp2
        go_roundw
        case rel => exact ⟨k + 1, by go_num, by omega, Lib.hid (by rw [Hs.out]; unfold Grow; rw [HoL.out]; exact Part.below ⟨_, Pc.out⟩ (below_new _ _)), below_alloc _ hb⟩
        case measure => simp [intOf]; omega
      all_goals
        have Hs : Hid (wkeys (l.take (k + 1)) = wkeys (l.take k) ++ [xKey]) := Lib.hid (by rw [Ht2.out, Ht.out, if_pos (by rfl)])
        clear Ht Ht2
        go_wp2_with (at_builtin; refine wpList_append_part (c := Cod.str) (wr.alloc (.cells #[.int .i64 _, .string xKey, .string xVal, .int .i64 xBy] 93)) rfl _ _ 22 (by rfl) w.heap.size 9 9 i0 (.string ⟨#[]⟩) 16 Try.underlying22 hi hz0 hz1 hz2 rfl (by decide) (by decide) wr _ oL (wkeys (l.take k)) cells (by rfl) Pc.out HoL.out (below_new _ _) xKey [] [.string xKey] rfl ⟨rfl, zk, rfl⟩ (Mine.nil _ _) (wr.heap.size + 1) (by simp) (by rfl) (by simp [Value.oneCell']) Hroom.out hbs ?_)
        intro g' cap' w3 hp3 hb3
        have Hp3 := Lib.hid hp3
        have hb4 : Below w.heap.size w w3 := (below_alloc _ hb).trans hb3
        clear hp3 hb3 Pc
        go_wp2
        go_roundw
        case rel => exact ⟨k + 1, by go_num, by omega, Lib.hid (by rw [Hs.out]; unfold Grow; rw [List.length_append, HoL.out]; exact Hp3.out), hb4⟩
        case measure => simp [intOf]; omega
    · have hlt2 : (n : Int) ≤ (k : Int) := by omega
      obtain rfl : k = n := by omega
      have Ho : Hid (Own Cod.str wr w.heap.size _ (wkeys l)) := Lib.hid (by have := Hp.out.own; rwa [List.take_of_length_le (by have := Hn.out; omega)] at this)
      have Hwl : Hid ((wkeys l).length ≤ 1048576) := Lib.hid (by have := wkeys_length l; have := Hn.out; omega)
      clear Hp
      go_wp2_with fail
      refine (sort_any _ (wkeys l) Hwl.out w.heap.size wr Ho.out).mono ?_
      rintro e w4 ⟨rfl, o4, k4⟩
      have O4 := Lib.hid o4
      have b4 : Below w.heap.size w w4 := hb.trans k4
      clear o4 k4
      go_wp2_with fail
      refine (compact_any _ (sortL (wkeys l)) (by rw [sortL_length]; exact Hwl.out) w.heap.size w4 O4.out).mono ?_
      rintro e w5 ⟨v', rfl, o5, k5⟩
      rw [setL_sort] at o5
      have O5 := Lib.hid o5
      have b5 : Below w.heap.size w w5 := b4.trans k5
      clear o5 k5
      go_wp2
      go_ret2
      exact ⟨_, rfl, O5.out, b5⟩

set_option maxRecDepth 100000 in
set_option maxHeartbeats 3200000 in
/-- spec.KeysWritten -/
theorem keysWrittenS_any (v : Value) (l : List OpD) (hl : costOpS l ≤ 1048576) (w : World) (h : Rd Cod.op w v l) :
    Calls Try.prog 32 #[v] w fun e w' => ∃ v', e = .returned (.tuple #[v', .bool (goodOB l)]) ∧ Own Cod.str w' w.heap.size v' (pickL (goodOB l) (setL (wkeys l))) ∧ Below w.heap.size w w' := by
  have hln : l.length ≤ 1048576 := by unfold costOpS at hl; omega
  have Hg := Lib.hid (l5Good_any v l hln w h)
  obtain ⟨p, c, rfl, _, _, r⟩ := h.form
  have R := Lib.hid r
  clear r h hl
  obtain ⟨n, hn⟩ : ∃ n : Nat, l.length = n := ⟨_, rfl⟩
  have Hn := Lib.hid hn
  have hnb : (n : Int) ≤ 1048576 := by omega
  rw [hn] at Hg ⊢
  clear hn hln
  generalize goodOB l = q at *
  cases q
  · go_enter Try.func32, Try.ntmps32
    go_wp2_with fail
    refine Hg.out.mono ?_
    rintro e w1 ⟨rfl, k1⟩
    go_wp2
    go_ret2
    exact ⟨_, rfl, own_nil _ _ _, k1⟩
  go_enter Try.func32, Try.ntmps32
  go_wp2_with fail
  refine Hg.out.mono ?_
  rintro e w1 ⟨rfl, k1⟩
  have z1 := k1.size
  go_wp2
  go_loopw [4, 12] (fun a i wr => ∃ k : Nat, i = .int .i64 (k : Int) ∧ k ≤ n ∧ Hid (Own Cod.str wr w.heap.size a (setL (wkeys (l.take k)))) ∧ Hid (wkeys (l.take k) = [] → a = .slice none 0 0) ∧ Below w.heap.size w wr) (fun _ i _ => n - (intOf i).toNat)
  case atStart => exact ⟨0, rfl, Nat.zero_le _, Lib.hid (by rw [List.take_zero, show wkeys [] = [] from rfl, setL_nil]; exact own_nil0 _ _ _), Lib.hid (fun _ => rfl), k1⟩
  case round =>
    obtain ⟨k, rfl, hk, Ho, Hz, hb⟩ := hrel
    have hbs := hb.size
    by_cases hlt : k < n
    · have hlt2 : (k : Int) < (n : Int) := by omega
      have hkl : k < l.length := by have := Hn.out; omega
      obtain ⟨g, o, rfl, hg, hc⟩ := R.out (by have := Hn.out; omega)
      have at0 := (hc k hkl).below hg hb
      have Ht := Lib.hid (wkeys_snoc (l.take k) l[k])
      have Ht2 : Hid (l.take (k + 1) = l.take k ++ [l[k]]) := Lib.hid (List.take_succ_eq_append_getElem hkl)
      have hlen := wkeys_length (l.take k)
      rw [List.length_take] at hlen
      obtain ⟨x, es⟩ : ∃ x, l[k] = x := ⟨_, rfl⟩
      rw [es] at at0 Ht Ht2
      clear hc es hkl
      obtain ⟨d0, d1, d2, d3, z0, zk, z2, z3⟩ := at_op at0
      rw [show o + k * Cod.op.size = o + k * 4 from rfl] at *
      clear at0 z0 z2 z3
      obtain ⟨xK, xKey, xVal, xBy⟩ := x
      dsimp only at *
      have Hc := Lib.hid (fun (W : World) (b : Below wr.heap.size wr W) => l4PutS_any _ (setL (wkeys (l.take k))) (by have := setL_length (wkeys (l.take k)); omega) (fun e => Hz.out (by
        by_cases e0 : wkeys (l.take k) = []
        · exact e0
        · exfalso
          have := setL_pos e0
          rw [e] at this
          simp at this)) xKey zk w.heap.size W (Ho.out.below b) (Nat.le_trans hbs b.size))
      have Hw := Lib.hid (l5Writes_any xK)
      clear hlen
      generalize hq : wkB xK = q at *
      cases q
      · have Hs : Hid (wkeys (l.take (k + 1)) = wkeys (l.take k)) := Lib.hid (by rw [Ht2.out, Ht.out, if_neg (by simp), List.append_nil])
        clear Ht Ht2 Hc hq
        go_wp2_with fail
        refine (Hw.out _).mono ?_
        rintro e w2 ⟨rfl, rfl⟩
        go_wp2
        go_roundw
        case rel => exact ⟨k + 1, by go_num, by omega, Lib.hid (by rw [Hs.out]; exact Ho.out.below (below_new _ _)), Lib.hid (by rw [Hs.out]; exact Hz.out), below_alloc _ hb⟩
        case measure => simp [intOf]; omega
      · have Hs : Hid (wkeys (l.take (k + 1)) = wkeys (l.take k) ++ [xKey]) := Lib.hid (by rw [Ht2.out, Ht.out, if_pos rfl])
        clear Ht Ht2 hq
        go_wp2_with fail
        refine (Hw.out _).mono ?_
        rintro e w2 ⟨rfl, rfl⟩
        go_wp2_with fail
        refine (Hc.out _ (by (repeat (first | (with_reducible exact Below.refl _ _) | (with_reducible refine below_setCell ?_ (by first | (simp; done) | (simp; omega) | omega)) | (with_reducible refine below_alloc _ ?_) | (with_reducible refine below_drewN ?_ _) | (with_reducible assumption) | (with_reducible refine below_after (by assumption) ?_))))).mono ?_
        rintro e w3 ⟨v', r, rfl, hp, ho, k3⟩
        have Hr := Lib.hid (putS_setL hp)
        have Ho1 := Lib.hid ho
        have b3 : Below w.heap.size w w3 := below_after k3 (by (repeat (first | (with_reducible exact Below.refl _ _) | (with_reducible refine below_setCell ?_ (by first | (simp; done) | (simp; omega) | omega)) | (with_reducible refine below_alloc _ ?_) | (with_reducible refine below_drewN ?_ _) | (with_reducible assumption) | (with_reducible refine below_after (by assumption) ?_))))
        clear hp ho Hc
        go_wp2
        go_roundw
        case rel => exact ⟨k + 1, by go_num, by omega, Lib.hid (by rw [Hs.out, ← Hr.out]; exact Ho1.out), Lib.hid (by rw [Hs.out]; intro h; simp at h), b3⟩
        case measure => simp [intOf]; omega
    · have hlt2 : (n : Int) ≤ (k : Int) := by omega
      obtain rfl : k = n := by omega
      go_wp2
      go_ret2
      refine ⟨_, rfl, ?_, hb⟩
      have := Ho.out
      rw [List.take_of_length_le (by have := Hn.out; omega)] at this
      exact this

end Go.Proofs.Ytibgpjkpfakgiaa
