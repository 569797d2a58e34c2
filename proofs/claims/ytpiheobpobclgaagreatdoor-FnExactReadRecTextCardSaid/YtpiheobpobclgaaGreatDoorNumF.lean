/- impl.readInt, impl.NumberIn, spec.l1Read, spec.l5Num, strconv.Itoa. -/
import Derived.Test.YtpiheobpobclgaaGreatDoorNumL
import Derived.Test.YtpiheobpobclgaaGreatDoorShelf
import Derived.Test.YtpiheobpobclgaaGreatDoorCore
import Derived.Lib.AppendIntMem
import Derived.Lib.AtoiErrMem
namespace Go.Proofs.YtpiheobpobclgaaGreatDoor
open Go.RowKit Go.Sort

/-- The table of powers of ten stands, and will. -/
def TabW (w : World) : Prop := ∀ w', Below w.heap.size w w' → Lib.TabIs Tryz.prog w' "internal/strconv.uint64pow10" .u64 Lib.pow10Tab
theorem TabW.on {w w' : World} (h : TabW w) (k : Below w.heap.size w w') : TabW w' := fun w2 k2 => h w2 (k.trans (k2.mono k.size))
theorem TabW.here {w : World} (h : TabW w) : Lib.TabIs Tryz.prog w "internal/strconv.uint64pow10" .u64 Lib.pow10Tab := h w (Below.refl _ _)
/-- The two errors stand, and will. -/
def ErrW (w : World) : Prop := (∃ tp p, ∀ w', Below w.heap.size w w' → w'.var? Tryz.prog "strconv.ErrSyntax" = some #[.iface tp p]) ∧ ∃ tp p, ∀ w', Below w.heap.size w w' → w'.var? Tryz.prog "strconv.ErrRange" = some #[.iface tp p]
theorem ErrW.on {w w' : World} (h : ErrW w) (k : Below w.heap.size w w') : ErrW w' := by
  obtain ⟨⟨t1, p1, h1⟩, t2, p2, h2⟩ := h
  exact ⟨⟨t1, p1, fun w2 k2 => h1 w2 (k.trans (k2.mono k.size))⟩, t2, p2, fun w2 k2 => h2 w2 (k.trans (k2.mono k.size))⟩

/-- strconv.Itoa -/
theorem itoa_any (n : Int) (h0 : -9223372036854775808 ≤ n) (h1 : n ≤ 9223372036854775807) (w : World) (hT : TabW w) :
    Calls Tryz.prog 41 #[.int .i64 n] w fun e w' => e = .returned (.string ⟨(Lib.itoa n).toArray⟩) ∧ Below w.heap.size w w' := by
  refine (Tryz.strconv_Itoa n h0 h1 w hT.here).mono ?_
  rintro e w' ⟨rfl, k, os, rfl⟩
  exact ⟨rfl, Lib.below_grow _ _ (Nat.le_refl _) _ _⟩

theorem atoi_in {l : List UInt8} {v : Int} (h : Lib.atoiAll l = .ok v) : -9223372036854775808 ≤ v ∧ v ≤ 9223372036854775807 := Lib.atoiAll_bounds h

set_option maxRecDepth 100000 in
set_option maxHeartbeats 1600000 in
/-- impl.readInt -/
theorem readInt_any (s : ByteArray) (hs : s.size ≤ 1048576) (low high : Int) (w : World) (hT : TabW w) (hE : ErrW w) :
    Calls Tryz.prog 33 #[.string s, .int .i64 low, .int .i64 high] w fun e w' => e = .returned (.tuple #[.int .i64 (readI s.data.toList low high).1, .bool (readI s.data.toList low high).2]) ∧ Below w.heap.size w w' := by
  obtain ⟨⟨t1, p1, e1⟩, t2, p2, e2⟩ := hE
  cases ha : Lib.atoiAll s.data.toList with
  | range =>
    have hr : readI s.data.toList low high = (0, false) := by unfold readI; rw [ha]
    have Ha := Lib.hid (Tryz.strconv_Atoi_range_var s (by omega) ha t2 p2 w (e2 w (Below.refl _ _)))
    rw [hr]
    clear ha hr e1 e2 hT
    go_enter Tryz.func33, Tryz.ntmps33
    go_wp2_with fail
    refine Ha.out.mono ?_
    rintro e w1 ⟨N, rfl, -, -, k1⟩
    go_wp2
    go_ret2
    exact ⟨rfl, k1⟩
  | ok v =>
    have hv := atoi_in ha
    have Ha := Lib.hid (Tryz.strconv_Atoi_ok s (by omega) v ha w)
    have Hw := Lib.hid (fun W => within_any v low high W)
    have Hi := Lib.hid (fun (W : World) (k : Below w.heap.size w W) => itoa_any v hv.1 hv.2 W (hT.on k))
    have hr : readI s.data.toList low high = if (low ≤ v ∧ v ≤ high) ∧ Lib.itoa v = s.data.toList then (v, true) else (0, false) := by unfold readI; rw [ha]
    rw [hr]
    cases hb : inB v low high
    · rw [if_neg (fun h => by rw [inB_iff.2 h.1] at hb; cases hb)]
      rw [hb] at Hw
      clear ha hr e1 e2 hT Hi hb
      go_enter Tryz.func33, Tryz.ntmps33
      go_wp2_with fail
      refine Ha.out.mono ?_
      rintro e w1 ⟨rfl, hw1⟩
      have k1 : Below w.heap.size w w1 := by
        rcases hw1 with rfl | ⟨t, rfl⟩
        · exact Below.refl _ _
        · exact Lib.bytesWorld_below _ _ _
      clear hw1
      go_wp2_with fail
      refine (Hw.out _).mono ?_
      rintro e w2 ⟨rfl, rfl⟩
      go_wp2
      go_ret2
      exact ⟨rfl, k1⟩
    · have hin := inB_iff.1 hb
      rw [hb] at Hw
      by_cases he : Lib.itoa v = s.data.toList
      · rw [if_pos ⟨hin, he⟩]
        have hX : (⟨(Lib.itoa v).toArray⟩ : ByteArray) = s := by
          apply ByteArray.ext
          apply Array.toList_inj.1
          exact he
        rw [hX] at Hi
        clear ha hr e1 e2 hT hb he hX hin
        go_enter Tryz.func33, Tryz.ntmps33
        go_wp2_with fail
        refine Ha.out.mono ?_
        rintro e w1 ⟨rfl, hw1⟩
        have k1 : Below w.heap.size w w1 := by
          rcases hw1 with rfl | ⟨t, rfl⟩
          · exact Below.refl _ _
          · exact Lib.bytesWorld_below _ _ _
        clear hw1
        go_wp2_with fail
        refine (Hw.out _).mono ?_
        rintro e w2 ⟨rfl, rfl⟩
        go_wp2_with fail
        refine (Hi.out _ k1).mono ?_
        rintro e w3 ⟨rfl, k3⟩
        go_wp2
        go_ret2
        exact ⟨rfl, below_after k3 k1⟩
      · rw [if_neg (fun h => he h.2)]
        have hne : ((⟨(Lib.itoa v).toArray⟩ : ByteArray).toList == s.toList) = false := str_ne (fun e => he (by rw [← e]))
        generalize (⟨(Lib.itoa v).toArray⟩ : ByteArray) = X at *
        clear ha hr e1 e2 hT hb he hin
        go_enter Tryz.func33, Tryz.ntmps33
        go_wp2_with fail
        refine Ha.out.mono ?_
        rintro e w1 ⟨rfl, hw1⟩
        have k1 : Below w.heap.size w w1 := by
          rcases hw1 with rfl | ⟨t, rfl⟩
          · exact Below.refl _ _
          · exact Lib.bytesWorld_below _ _ _
        clear hw1
        go_wp2_with fail
        refine (Hw.out _).mono ?_
        rintro e w2 ⟨rfl, rfl⟩
        go_wp2_with fail
        refine (Hi.out _ k1).mono ?_
        rintro e w3 ⟨rfl, k3⟩
        go_wp2
        go_ret2
        exact ⟨rfl, below_after k3 k1⟩
  | _ =>
    have hr : readI s.data.toList low high = (0, false) := by unfold readI; rw [ha]
    have Ha := Lib.hid (Any.strconv_Atoi_syntax_var Tryz.laysC172 s (by omega) ha t1 p1 w (e1 w (Below.refl _ _)))
    rw [hr]
    clear ha hr e1 e2 hT
    go_enter Tryz.func33, Tryz.ntmps33
    go_wp2_with fail
    refine Ha.out.mono ?_
    rintro e w1 ⟨N, rfl, -, -, k1⟩
    go_wp2
    go_ret2
    exact ⟨rfl, k1⟩

theorem readD_bad {l : List UInt8} {k : Nat} {b : UInt8} (hb : l[k]? = some b) (hd : Lib.digitVal b = none) : readD l = -1 := by
  have hdec : Lib.decFrom 0 l = none := by
    have hk : k < l.length := (List.getElem?_eq_some_iff.1 hb).1
    have e : l = l.take k ++ (b :: l.drop (k + 1)) := by
      conv => lhs; rw [← List.take_append_drop k l]
      congr 1
      rw [List.drop_eq_getElem_cons hk]
      congr 1
      exact (List.getElem?_eq_some_iff.1 hb).2
    rw [e, decFrom_app]
    cases Lib.decFrom 0 (l.take k) with
    | none => rfl
    | some a => show (match Lib.digitVal b with | some d => Lib.decFrom (a * 10 + d) (l.drop (k + 1)) | none => none) = none; rw [hd]
  unfold readD
  rw [hdec]
  simp

set_option maxRecDepth 100000 in
set_option maxHeartbeats 1600000 in
/-- spec.l1Read -/
theorem l1Read_any (s : ByteArray) (hs : s.size ≤ 1048576) (w : World) : Calls Tryz.prog 11 #[.string s] w fun e w' => e = .returned (.int .i64 (readD s.data.toList)) ∧ w = w' := by
  have hl : s.data.toList.length = s.size := by rw [Array.length_toList]; rfl
  have Hi := Lib.hid (fun W => l1In_any (s.size : Int) 1 6 W)
  have hsI : (s.size : Int) ≤ 1048576 := by omega
  by_cases hb : 1 ≤ s.size ∧ s.size ≤ 6
  rotate_left
  · have hr : readD s.data.toList = -1 := by unfold readD; rw [if_neg (fun h => hb (by rw [hl] at h; exact ⟨h.1, h.2.1⟩))]
    have hq : inB (s.size : Int) 1 6 = false := by
      cases h : inB (s.size : Int) 1 6
      · rfl
      · have := inB_iff.1 h; omega
    rw [hq] at Hi
    rw [hr]
    clear hr hb hq hl
    go_enter Tryz.func11, Tryz.ntmps11
    go_wp2_with fail
    refine (Hi.out _).mono ?_
    rintro e w1 ⟨rfl, rfl⟩
    go_wp2
    go_ret
    exact ⟨rfl, rfl⟩
  have hq : inB (s.size : Int) 1 6 = true := inB_iff.2 (by omega)
  rw [hq] at Hi
  have h0 : 0 < s.size := by omega
  have h0I : (0 : Int) < (s.size : Int) := by omega
  have h6I : (s.size : Int) ≤ 6 := by omega
  have hhead : s.data.toList.head? = some s[0] := by
    rw [List.head?_eq_getElem?, List.getElem?_eq_getElem (by omega)]
    rfl
  have hc0 : (s[0].toNat : Int) ≤ 255 := by have := s[0].toNat_lt; omega
  by_cases hz : s[0] = 48 ∧ 1 < s.size
  · have hr : readD s.data.toList = -1 := by unfold readD; rw [if_neg (fun h => h.2.2 ⟨by rw [hhead, hz.1], by rw [hl]; exact hz.2⟩)]
    have hz1 : (s[0].toNat : Int) = 48 := by rw [hz.1]; rfl
    have hz2 : (1 : Int) < (s.size : Int) := by omega
    rw [hr]
    clear hr hb hq hl hz hhead
    go_enter Tryz.func11, Tryz.ntmps11
    go_wp2_with fail
    refine (Hi.out _).mono ?_
    rintro e w1 ⟨rfl, rfl⟩
    go_wp2
    go_ret
    exact ⟨rfl, rfl⟩
  · have hr : readD s.data.toList = (match Lib.decFrom 0 s.data.toList with | some n => (n : Int) | none => -1) := by
      unfold readD
      rw [if_pos ⟨by omega, by omega, fun h => hz ⟨by rw [hhead] at h; simpa using h.1, by rw [hl] at h; exact h.2⟩⟩]
      rfl
    have hcase : ((s[0].toNat : Int) == 48) = false ∨ (((s[0].toNat : Int) == 48) = true ∧ decide ((1 : Int) < (s.size : Int)) = false) := by
      by_cases h48 : s[0] = 48
      · right
        have h1 : ¬ 1 < s.size := fun h => hz ⟨h48, h⟩
        exact ⟨by rw [h48]; rfl, decide_eq_false (by omega)⟩
      · left
        simp only [beq_eq_false_iff_ne, ne_eq]
        intro h
        exact h48 (UInt8.toNat_inj.1 (by rw [show (48 : UInt8).toNat = 48 from rfl]; omega))
    have Hr := Lib.hid hr
    have Hbad := Lib.hid (fun (k : Nat) (b : UInt8) => @readD_bad s.data.toList k b)
    have hget : ∀ k (h : k < s.size), s.data.toList[k]? = some s[k] := fun k h => by
      rw [List.getElem?_eq_getElem (by omega)]
      rfl
    have Hget := Lib.hid hget
    have Hl := Lib.hid hl
    generalize hR : readD s.data.toList = R at *
    clear hR hr hz hb hq hl hhead hget
    rcases hcase with hcs | ⟨hcs, hcs2⟩
    all_goals
      go_enter Tryz.func11, Tryz.ntmps11
      go_wp2_with fail
      refine (Hi.out _).mono ?_
      rintro e w1 ⟨rfl, rfl⟩
      go_wp2
      go_loop [3, 4] (fun t i => ∃ k m : Nat, k ≤ s.size ∧ i = .int .i64 (k : Int) ∧ t = .int .i64 (m : Int) ∧ Hid (Lib.decFrom 0 (s.data.toList.take k) = some m) ∧ m ≤ 1000000) (fun _ i => s.size - (intOf i).toNat)
      case atStart => exact ⟨0, 0, Nat.zero_le _, rfl, rfl, Lib.hid rfl, Nat.zero_le _⟩
      case round =>
        obtain ⟨k, m, hk, rfl, rfl, Hm, hm⟩ := hrel
        by_cases hlt : k < s.size
        · have hltI : (k : Int) < (s.size : Int) := by omega
          have hcb : (s[k].toNat : Int) ≤ 255 := by have := s[k].toNat_lt; omega
          cases hd : Lib.digitVal s[k] with
          | none =>
            have hRR : R = -1 := Hbad.out k s[k] (Hget.out k hlt) hd
            have hout := Lib.digitVal_none hd
            subst hRR
            clear hd Hbad Hget Hr
            by_cases h48 : s[k].toNat < 48
            · have h48I : (s[k].toNat : Int) < 48 := by omega
              go_wp2
              go_ret
              exact ⟨rfl, rfl⟩
            · have h48I : 48 ≤ (s[k].toNat : Int) := by omega
              have h57I : 57 < (s[k].toNat : Int) := by omega
              go_wp2
              go_ret
              exact ⟨rfl, rfl⟩
          | some d =>
            obtain ⟨q1, q2, q3⟩ := Lib.digitVal_eq hd
            have Hm2 := Lib.hid (Lib.decFrom_take s.data.toList k 0 m s[k] d Hm.out (Hget.out k hlt) hd)
            have hlt6 := Lib.decFrom_lt _ 0 _ Hm2.out
            have hp : 10 ^ (s.data.toList.take (k + 1)).length ≤ 10 ^ 6 := Nat.pow_le_pow_right (by decide) (by rw [List.length_take]; omega)
            have h48I : 48 ≤ (s[k].toNat : Int) := by omega
            have h57I : (s[k].toNat : Int) ≤ 57 := by omega
            have hmI : (m : Int) ≤ 1000000 := by omega
            have hm2 : m * 10 + d ≤ 1000000 := by omega
            clear hd hlt6 hp Hbad Hr
            go_wp2
            go_round
            case rel => exact ⟨k + 1, m * 10 + d, by omega, by go_num, congrArg (Value.int .i64) (by omega), Hm2, hm2⟩
            case measure => simp [intOf]; omega
        · have hltI : (s.size : Int) ≤ (k : Int) := by omega
          have hRR : R = (m : Int) := by
            rw [Hr.out]
            have := Hm.out
            rw [List.take_of_length_le (by have := Hl.out; omega)] at this
            rw [this]
          subst hRR
          clear Hr Hbad Hget
          go_wp2
          go_ret
          exact ⟨rfl, rfl⟩

end Go.Proofs.YtpiheobpobclgaaGreatDoor
