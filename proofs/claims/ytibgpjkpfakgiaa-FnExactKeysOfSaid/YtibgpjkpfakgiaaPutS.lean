/- spec.l1OwnS, spec.l4PutS, spec.l4KeysOf. -/
import Derived.Test.YtibgpjkpfakgiaaPlainSet
import Derived.Test.YtibgpjkpfakgiaaRow3
import Derived.Test.YtibgpjkpfakgiaaOwnLogM
import Derived.Test.YtibgpjkpfakgiaaRowTD
import Derived.Test.YtibgpjkpfakgiaaSortS
namespace Go.Proofs.Ytibgpjkpfakgiaa
open Go.RowKit

theorem Try_infoP_str : (Try.prog.info? 9).map (fun i => (i.zero, i.size, i.bytes)) = some (some (.string ⟨#[]⟩), 1, 16) := by kernel_rfl

set_option maxRecDepth 100000 in
/-- spec.l1OwnS -/
theorem l1OwnS_any (v : Value) (l : List ByteArray) (hl : l.length ≤ 1048576) (w : World) (h : Rd Cod.str w v l) :
    Calls Try.prog 117 #[v] w fun e w' => ∃ p c cells, e = .returned (.slice p l.length c) ∧ PartC Cod.str w' w.heap.size 9 (.slice p l.length c) l.length l cells ∧ Below w.heap.size w w' := by
  obtain ⟨i0, hi, hz0, hz1, hz2⟩ := info_parts Try_infoP_str
  have Hr : Hid (∀ u, Below w.heap.size w u → Rd Cod.str u v l) := Lib.hid fun u b => h.below b
  obtain ⟨p, c, rfl, -⟩ := h.form
  have Hb : Hid ((0 + l.length) * 16 ≤ room) := Lib.hid (by unfold room; omega)
  clear h hl
  go_enter Try.func117, Try.ntmps117
  go_wp2_with (at_builtin; refine wpList_append_flat (c := Cod.str) flat_str _ rfl _ _ 22 (by rfl) w.heap.size 9 i0 (.string ⟨#[]⟩) 16 Try.underlying22 hi hz0 hz1 hz2 rfl (by decide) (by decide) _ (.slice (some ⟨w.heap.size, 0, none⟩) 0 0) 0 [] [] (by rfl) (part_start (made0 rfl (Nat.le_refl _))) rfl (Below.refl _ _) _ l (by rfl) (Hr.out _ (below_new _ _)) Hb.out (by simp) ?_)
  intro p' c' w' cells' hP hb'
  have HP := Lib.hid hP
  clear hP
  have hb2 : Below w.heap.size w w' := (below_new _ _).trans hb'
  clear hb'
  go_wp2
  go_ret
  have h3 := HP.out
  (try simp only [Nat.zero_add, List.nil_append] at h3 ⊢)
  exact ⟨_, _, _, rfl, h3, hb2⟩

theorem own_nil0 {α : Type} (c : Cod α) (w : World) (base : Nat) : Own c w base (.slice none 0 0) [] := ⟨[], ⟨none, 0, rfl, Nat.le_refl _, Nat.zero_le _, fun _ => rfl, Or.inl ⟨rfl, rfl⟩⟩, Mine.nil _ _⟩

/-- What l4PutS gives. -/
def PutPost (s : ByteArray) (l : List ByteArray) (base : Nat) (w : World) (e : Ending) (w' : World) : Prop := ∃ v' r, e = .returned v' ∧ PutS s l r ∧ Own Cod.str w' base v' r ∧ Below w.heap.size w w'
theorem put_post {s : ByteArray} {l r : List ByteArray} {base : Nat} {w w' : World} {v' : Value} (h : PutS s l r) (o : Own Cod.str w' base v' r) (b : Below w.heap.size w w') : PutPost s l base w (.returned v') w' := ⟨v', r, rfl, h, o, b⟩

set_option maxRecDepth 100000 in
set_option maxHeartbeats 1600000 in
/-- spec.l4PutS at nothing -/
theorem l4PutS_nil (s : ByteArray) (hs : s.size ≤ maxLen) (base : Nat) (w : World) (hbw : base ≤ w.heap.size) :
    Calls Try.prog 70 #[.slice none 0 0, .string s] w (PutPost s [] base w) := by
  obtain ⟨i0, hi, hz0, hz1, hz2⟩ := info_parts Try_infoP_str
  have Hd := Lib.hid (fun (W : World) (b : Below w.heap.size w W) => l1OwnS_any (.slice none 0 0) [] (by simp) W (Rd.drop_end (fun _ => rfl) (Nat.zero_le _)))
  have Ht := Hd
  have HP : Hid (PutS s [] ([] ++ s :: [])) := Lib.hid ⟨0, Nat.le_refl _, (fun j h => by simp at h), Or.inr ⟨fun h => by simp at h, rfl⟩⟩
  have Hr1 : Hid ((([] : List ByteArray).length + 1) * 16 ≤ room) := Lib.hid (by unfold room; simp)
  have Hr2 : Hid ((([] : List ByteArray).length + 1 + ([] : List ByteArray).length) * 16 ≤ room) := Lib.hid (by unfold room; simp)
  go_enter Try.func70, Try.ntmps70
  go_wp2
  go_loop [5] (fun i => i = .int .i64 0) (fun i => (intOf i).toNat)
  case atStart => rfl
  case round =>
    subst hrel
    go_wp2_with fail
    first
    | (
          go_wp2_with fail
          refine (Hd.out _ (by first | exact Below.refl _ _ | assumption)).mono ?_
          rintro e w1 ⟨p1, c1, cells1, rfl, P1, k1⟩
          have P1 := Lib.hid P1
          have z1 := k1.size
          go_wp2_with fail
          refine (Ht.out _ k1).mono ?_
          rintro e w2 ⟨p2, c2, cells2, rfl, P2, k2⟩
          have P2 := Lib.hid P2
          have z2 := k2.size
          have b2 : Below w.heap.size w w2 := below_after k2 k1
          go_wp2_with (at_builtin; go_must (refine wpList_append_part (c := Cod.str) w2 rfl _ _ 22 (by rfl) w1.heap.size 9 9 i0 (.string ⟨#[]⟩) 16 Try.underlying22 hi hz0 hz1 hz2 rfl (by decide) (by decide) w2 _ _ ([]) cells2 (by rfl) P2.out rfl (Below.refl _ _) s [] [.string s] rfl ⟨rfl, hs, rfl⟩ (Mine.nil _ _) w2.heap.size rfl (by rfl) (by simp [Value.oneCell']) Hr1.out z2 ?_))
          intro g3 cap3 w3 hp3 hb3
          obtain ⟨cells3, hp3⟩ := hp3
          have P3 := Lib.hid hp3
          have hb13 : Below w1.heap.size w1 w3 := k2.trans hb3
          have b3 : Below w.heap.size w w3 := below_after hb13 k1
          have hr3 : Hid (Rd Cod.str w3 (.slice p1 (([] : List ByteArray)).length c1) (([] : List ByteArray))) := Lib.hid ((P1.out.own rfl).rd.below hb13)
          clear hp3 hb3
          go_wp2_with (at_builtin; go_must (refine wpList_append_flat (c := Cod.str) flat_str w3 rfl _ _ 22 (by rfl) w1.heap.size 9 i0 (.string ⟨#[]⟩) 16 Try.underlying22 hi hz0 hz1 hz2 rfl (by decide) (by decide) w3 _ _ _ cells3 (by rfl) P3.out (by simp) (Below.refl _ _) _ (([] : List ByteArray)) (by rfl) hr3.out Hr2.out (by have := hb13.size; omega) ?_))
          intro p4 cap4 w4 cells4 hp4 hb4
          have P4 := Lib.hid hp4
          have b4 : Below w.heap.size w w4 := ⟨hb4.os.trans b3.os, hb4.tape.trans b3.tape, hb4.output.trans b3.output, Nat.le_trans b3.size hb4.size, fun i hi => (hb4.block i (by omega)).trans (b3.block i hi)⟩
          clear hp4 hb4
          go_wp2
          go_ret
          exact put_post HP.out (by have := P4.out.own (by simp); (try simp only [List.append_assoc, List.singleton_append, List.nil_append, List.append_nil] at this ⊢); exact this.mono (by omega)) b4
    )

set_option maxRecDepth 100000 in
set_option maxHeartbeats 6400000 in
/-- spec.l4PutS at something -/
theorem l4PutS_some (g o n c : Nat) (l : List ByteArray) (hl : l.length ≤ 1048575) (hpos : 0 < l.length) (s : ByteArray) (hs : s.size ≤ maxLen) (base : Nat) (w : World) (h : Own Cod.str w base (.slice (some ⟨g, o, none⟩) n c) l) (hbw : base ≤ w.heap.size) :
    Calls Try.prog 70 #[.slice (some ⟨g, o, none⟩) n c, .string s] w (PutPost s l base w) := by
  obtain ⟨i0, hi, hz0, hz1, hz2⟩ := info_parts Try_infoP_str
  have HO := Lib.hid h
  have HR := Lib.hid h.rd
  obtain ⟨p', c', e, hnc, hcm, hcell⟩ := own_texts h
  injection e with e1 e2 e3
  subst e1 e2 e3
  obtain ⟨g', o', e, -, -, -, hc0⟩ := hcell hpos
  injection e with e
  injection e with e1 e2
  subst e1 e2
  have Hc := Lib.hid hc0
  obtain ⟨n, hn⟩ : ∃ n, l.length = n := ⟨_, rfl⟩
  have Hn := Lib.hid hn
  have Hl := Lib.hid hl
  rw [hn] at HO HR hnc hpos ⊢
  have hnI : (n : Int) ≤ 1048575 := by omega
  have hncI : (n : Int) ≤ (c : Int) := by omega
  have hcI : (c : Int) ≤ 9223372036854775807 := by unfold maxLen at hcm; omega
  clear hn hl h hcell hc0
  go_enter Try.func70, Try.ntmps70
  go_wp2
  go_loop [5] (fun i => ∃ k : Nat, i = .int .i64 (k : Int) ∧ k ≤ n ∧ Hid (∀ j (h : j < l.length), k ≤ j → ltB s l[j] = true)) (fun i => (intOf i).toNat)
  case atStart => exact ⟨n, rfl, Nat.le_refl _, Lib.hid fun j h1 h2 => by have := Hn.out; omega⟩
  case round =>
    obtain ⟨k, rfl, hk, Hall⟩ := hrel
    by_cases hk0 : k = 0
    · subst hk0
      have HP : Hid (PutS s l (l.take 0 ++ s :: l.drop 0)) := Lib.hid ⟨0, Nat.zero_le _, fun j h _ => Hall.out j h (Nat.zero_le _), Or.inr ⟨fun _ h => by omega, rfl⟩⟩
      have Hd0 := fun (W : World) (b : Below w.heap.size w W) => l1OwnS_any (.slice (some ⟨g, o, none⟩) n c) (l.drop 0) (by rw [List.length_drop]; have := Hl.out; omega) W (HR.out.below b)
      have Ht0 := fun (W : World) (b : Below w.heap.size w W) => l1OwnS_any (.slice (some ⟨g, o, none⟩) 0 c) (l.take 0) (by rw [List.length_take]; have := Hl.out; omega) W ((HR.out.take 0 (by have := Hn.out; omega)).below b)
      obtain ⟨LD, hLD⟩ : ∃ LD, l.drop 0 = LD := ⟨_, rfl⟩
      obtain ⟨LT, hLT⟩ : ∃ LT, l.take 0 = LT := ⟨_, rfl⟩
      obtain ⟨nd, hnd⟩ : ∃ nd, LD.length = nd := ⟨_, rfl⟩
      obtain ⟨nt, hnt⟩ : ∃ nt, LT.length = nt := ⟨_, rfl⟩
      rw [hLD] at Hd0 HP
      rw [hLT] at Ht0 HP
      rw [hnd] at Hd0
      rw [hnt] at Ht0
      have HLD := Lib.hid hnd
      have HLT := Lib.hid hnt
      have Hr1 : Hid ((nt + 1) * 16 ≤ room) := Lib.hid (by have := Hl.out; rw [← hLT, List.length_take] at hnt; unfold room; omega)
      have Hr2 : Hid ((nt + 1 + LD.length) * 16 ≤ room) := Lib.hid (by have := Hl.out; rw [← hLT, List.length_take] at hnt; rw [← hLD, List.length_drop]; unfold room; omega)
      have Hd := Lib.hid Hd0
      have Ht := Lib.hid Ht0
      clear Hd0 Ht0 hLD hLT hnd hnt
      go_wp2_with fail
      refine (Hd.out _ (by first | exact Below.refl _ _ | assumption)).mono ?_
      rintro e w1 ⟨p1, c1, cells1, rfl, P1, k1⟩
      have P1 := Lib.hid P1
      have z1 := k1.size
      go_wp2_with fail
      refine (Ht.out _ k1).mono ?_
      rintro e w2 ⟨p2, c2, cells2, rfl, P2, k2⟩
      have P2 := Lib.hid P2
      have z2 := k2.size
      have b2 : Below w.heap.size w w2 := below_after k2 k1
      go_wp2_with (at_builtin; go_must (refine wpList_append_part (c := Cod.str) w2 rfl _ _ 22 (by rfl) w1.heap.size 9 9 i0 (.string ⟨#[]⟩) 16 Try.underlying22 hi hz0 hz1 hz2 rfl (by decide) (by decide) w2 _ nt LT cells2 (by rfl) P2.out HLT.out (Below.refl _ _) s [] [.string s] rfl ⟨rfl, hs, rfl⟩ (Mine.nil _ _) w2.heap.size rfl (by rfl) (by simp [Value.oneCell']) Hr1.out z2 ?_))
      intro g3 cap3 w3 hp3 hb3
      obtain ⟨cells3, hp3⟩ := hp3
      have P3 := Lib.hid hp3
      have hb13 : Below w1.heap.size w1 w3 := k2.trans hb3
      have b3 : Below w.heap.size w w3 := below_after hb13 k1
      have hr3 : Hid (Rd Cod.str w3 (.slice p1 nd c1) LD) := Lib.hid ((P1.out.own HLD.out).rd.below hb13)
      clear hp3 hb3
      go_wp2_with (at_builtin; go_must (refine wpList_append_flat (c := Cod.str) flat_str w3 rfl _ _ 22 (by rfl) w1.heap.size 9 i0 (.string ⟨#[]⟩) 16 Try.underlying22 hi hz0 hz1 hz2 rfl (by decide) (by decide) w3 _ (nt + 1) _ cells3 (by rfl) P3.out (by rw [List.length_append, HLT.out]; rfl) (Below.refl _ _) _ LD (by rfl) hr3.out Hr2.out (by have := hb13.size; omega) ?_))
      intro p4 cap4 w4 cells4 hp4 hb4
      have P4 := Lib.hid hp4
      have b4 : Below w.heap.size w w4 := ⟨hb4.os.trans b3.os, hb4.tape.trans b3.tape, hb4.output.trans b3.output, Nat.le_trans b3.size hb4.size, fun i hi => (hb4.block i (by omega)).trans (b3.block i hi)⟩
      clear hp4 hb4
      go_wp2
      go_ret
      exact put_post HP.out (by have := P4.out.own (by simp only [List.length_append, List.length_cons, List.length_nil, HLT.out]; omega); (try simp only [List.append_assoc, List.singleton_append, List.nil_append, List.append_nil] at this ⊢); exact this.mono (by omega)) b4
    · obtain ⟨m, hm⟩ : ∃ m, m + 1 = k := ⟨k - 1, by omega⟩
      have hml : m < l.length := by have := Hn.out; omega
      have hd0 := (Hc.out m hml).1
      have hk1 : 0 < (k : Int) := by omega
      have hkm : (k : Int) - 1 = (m : Int) := by omega
      have hmn : (m : Int) < (n : Int) := by have := Hn.out; omega
      have hkI : (k : Int) ≤ (n : Int) := by omega
      have hm0 : (0 : Int) ≤ (m : Int) := by omega
      have Hnx : Hid (ltB s l[m] = true → ∀ j (h : j < l.length), m ≤ j → ltB s l[j] = true) := Lib.hid fun h j hj hmj => by
        by_cases e : j = m
        · subst e; exact h
        · exact Hall.out j hj (by omega)
      have HP1 : Hid (l[m] = s → PutS s l l) := Lib.hid fun e => ⟨k, by have := Hn.out; omega, Hall.out, Or.inl ⟨by omega, by omega, by simp only [← hm, Nat.add_sub_cancel]; exact e, rfl⟩⟩
      have HP2 : Hid (ltB s l[m] = false → l[m] ≠ s → PutS s l (l.take k ++ s :: l.drop k)) := Lib.hid fun h1 h2 => ⟨k, by have := Hn.out; omega, Hall.out, Or.inr ⟨fun _ _ => by simp only [← hm, Nat.add_sub_cancel]; exact ⟨h1, h2⟩, rfl⟩⟩
      obtain ⟨x, es⟩ : ∃ x, l[m] = x := ⟨_, rfl⟩
      rw [es] at hd0 Hnx HP1 HP2
      clear es hml
      have Hm := Lib.hid hm
      clear hm
      have hle := leB_eq x s
      obtain ⟨b, hb⟩ : ∃ b, ltB s x = b := ⟨_, rfl⟩
      rw [hb] at Hnx HP2 hle
      clear hb
      cases b
      · by_cases heq : x = s
        · subst heq
          have HP := Lib.hid (HP1.out rfl)
          clear HP1 HP2 Hnx hle
          go_wp2
          go_ret
          exact put_post HP.out HO.out (Below.refl _ _)
        · have h2 : (x.toList == s.toList) = false := by rw [beq_eq_false_iff_ne]; exact fun e => heq (str_eq_iff.1 e)
          have h1 : Op.bytesLess x.toList s.toList = true := by rw [h2, Bool.or_false] at hle; exact hle
          have HP := Lib.hid (HP2.out rfl heq)
          clear HP1 HP2 Hnx heq hle
          by_cases hkc : k = c
          · obtain rfl : n = k := by omega
            obtain rfl : c = n := by omega
            have Hd0 := fun (W : World) (b : Below w.heap.size w W) => l1OwnS_any (.slice (some ⟨g, o, none⟩) 0 0) (l.drop c) (by rw [List.length_drop]; have := Hl.out; omega) W ((show Rd Cod.str w (.slice (some ⟨g, o, none⟩) 0 0) (l.drop c) from by rw [List.drop_of_length_le (by have := Hn.out; omega)]; exact Rd.drop_end (fun h => by cases h) (Nat.zero_le _)).below b)
            have Ht0 := fun (W : World) (b : Below w.heap.size w W) => l1OwnS_any (.slice (some ⟨g, o, none⟩) c c) (l.take c) (by rw [List.length_take]; have := Hl.out; omega) W ((HR.out.take c (by have := Hn.out; omega)).below b)
            obtain ⟨LD, hLD⟩ : ∃ LD, l.drop c = LD := ⟨_, rfl⟩
            obtain ⟨LT, hLT⟩ : ∃ LT, l.take c = LT := ⟨_, rfl⟩
            obtain ⟨nd, hnd⟩ : ∃ nd, LD.length = nd := ⟨_, rfl⟩
            obtain ⟨nt, hnt⟩ : ∃ nt, LT.length = nt := ⟨_, rfl⟩
            rw [hLD] at Hd0 HP
            rw [hLT] at Ht0 HP
            rw [hnd] at Hd0
            rw [hnt] at Ht0
            have HLD := Lib.hid hnd
            have HLT := Lib.hid hnt
            have Hr1 : Hid ((nt + 1) * 16 ≤ room) := Lib.hid (by have := Hl.out; rw [← hLT, List.length_take] at hnt; unfold room; omega)
            have Hr2 : Hid ((nt + 1 + LD.length) * 16 ≤ room) := Lib.hid (by have := Hl.out; rw [← hLT, List.length_take] at hnt; rw [← hLD, List.length_drop]; unfold room; omega)
            have Hd := Lib.hid Hd0
            have Ht := Lib.hid Ht0
            clear Hd0 Ht0 hLD hLT hnd hnt
            go_wp2_with fail
            refine (Hd.out _ (by first | exact Below.refl _ _ | assumption)).mono ?_
            rintro e w1 ⟨p1, c1, cells1, rfl, P1, k1⟩
            have P1 := Lib.hid P1
            have z1 := k1.size
            go_wp2_with fail
            refine (Ht.out _ k1).mono ?_
            rintro e w2 ⟨p2, c2, cells2, rfl, P2, k2⟩
            have P2 := Lib.hid P2
            have z2 := k2.size
            have b2 : Below w.heap.size w w2 := below_after k2 k1
            go_wp2_with (at_builtin; go_must (refine wpList_append_part (c := Cod.str) w2 rfl _ _ 22 (by rfl) w1.heap.size 9 9 i0 (.string ⟨#[]⟩) 16 Try.underlying22 hi hz0 hz1 hz2 rfl (by decide) (by decide) w2 _ nt LT cells2 (by rfl) P2.out HLT.out (Below.refl _ _) s [] [.string s] rfl ⟨rfl, hs, rfl⟩ (Mine.nil _ _) w2.heap.size rfl (by rfl) (by simp [Value.oneCell']) Hr1.out z2 ?_))
            intro g3 cap3 w3 hp3 hb3
            obtain ⟨cells3, hp3⟩ := hp3
            have P3 := Lib.hid hp3
            have hb13 : Below w1.heap.size w1 w3 := k2.trans hb3
            have b3 : Below w.heap.size w w3 := below_after hb13 k1
            have hr3 : Hid (Rd Cod.str w3 (.slice p1 nd c1) LD) := Lib.hid ((P1.out.own HLD.out).rd.below hb13)
            clear hp3 hb3
            go_wp2_with (at_builtin; go_must (refine wpList_append_flat (c := Cod.str) flat_str w3 rfl _ _ 22 (by rfl) w1.heap.size 9 i0 (.string ⟨#[]⟩) 16 Try.underlying22 hi hz0 hz1 hz2 rfl (by decide) (by decide) w3 _ (nt + 1) _ cells3 (by rfl) P3.out (by rw [List.length_append, HLT.out]; rfl) (Below.refl _ _) _ LD (by rfl) hr3.out Hr2.out (by have := hb13.size; omega) ?_))
            intro p4 cap4 w4 cells4 hp4 hb4
            have P4 := Lib.hid hp4
            have b4 : Below w.heap.size w w4 := ⟨hb4.os.trans b3.os, hb4.tape.trans b3.tape, hb4.output.trans b3.output, Nat.le_trans b3.size hb4.size, fun i hi => (hb4.block i (by omega)).trans (b3.block i hi)⟩
            clear hp4 hb4
            go_wp2
            go_ret
            exact put_post HP.out (by have := P4.out.own (by simp only [List.length_append, List.length_cons, List.length_nil, HLT.out]; omega); (try simp only [List.append_assoc, List.singleton_append, List.nil_append, List.append_nil] at this ⊢); exact this.mono (by omega)) b4
          · have hkc2 : (k : Int) < (c : Int) := by omega
            have Hd0 := fun (W : World) (b : Below w.heap.size w W) => l1OwnS_any (.slice (some ⟨g, o + k, none⟩) (n - k) (c - k)) (l.drop k) (by rw [List.length_drop]; have := Hl.out; omega) W ((show Rd Cod.str w (.slice (some ⟨g, o + k, none⟩) (n - k) (c - k)) (l.drop k) from by have := HR.out.dropLe k (by have := Hn.out; omega); rwa [show o + k * Cod.str.size = o + k from by show o + k * 1 = _; omega] at this).below b)
            have Ht0 := fun (W : World) (b : Below w.heap.size w W) => l1OwnS_any (.slice (some ⟨g, o, none⟩) k c) (l.take k) (by rw [List.length_take]; have := Hl.out; omega) W ((HR.out.take k (by have := Hn.out; omega)).below b)
            obtain ⟨LD, hLD⟩ : ∃ LD, l.drop k = LD := ⟨_, rfl⟩
            obtain ⟨LT, hLT⟩ : ∃ LT, l.take k = LT := ⟨_, rfl⟩
            obtain ⟨nd, hnd⟩ : ∃ nd, LD.length = nd := ⟨_, rfl⟩
            obtain ⟨nt, hnt⟩ : ∃ nt, LT.length = nt := ⟨_, rfl⟩
            rw [hLD] at Hd0 HP
            rw [hLT] at Ht0 HP
            rw [hnd] at Hd0
            rw [hnt] at Ht0
            have HLD := Lib.hid hnd
            have HLT := Lib.hid hnt
            have Hr1 : Hid ((nt + 1) * 16 ≤ room) := Lib.hid (by have := Hl.out; rw [← hLT, List.length_take] at hnt; unfold room; omega)
            have Hr2 : Hid ((nt + 1 + LD.length) * 16 ≤ room) := Lib.hid (by have := Hl.out; rw [← hLT, List.length_take] at hnt; rw [← hLD, List.length_drop]; unfold room; omega)
            have Hd := Lib.hid Hd0
            have Ht := Lib.hid Ht0
            clear Hd0 Ht0 hLD hLT hnd hnt
            go_wp2_with fail
            refine (Hd.out _ (by first | exact Below.refl _ _ | assumption)).mono ?_
            rintro e w1 ⟨p1, c1, cells1, rfl, P1, k1⟩
            have P1 := Lib.hid P1
            have z1 := k1.size
            go_wp2_with fail
            refine (Ht.out _ k1).mono ?_
            rintro e w2 ⟨p2, c2, cells2, rfl, P2, k2⟩
            have P2 := Lib.hid P2
            have z2 := k2.size
            have b2 : Below w.heap.size w w2 := below_after k2 k1
            go_wp2_with (at_builtin; go_must (refine wpList_append_part (c := Cod.str) w2 rfl _ _ 22 (by rfl) w1.heap.size 9 9 i0 (.string ⟨#[]⟩) 16 Try.underlying22 hi hz0 hz1 hz2 rfl (by decide) (by decide) w2 _ nt LT cells2 (by rfl) P2.out HLT.out (Below.refl _ _) s [] [.string s] rfl ⟨rfl, hs, rfl⟩ (Mine.nil _ _) w2.heap.size rfl (by rfl) (by simp [Value.oneCell']) Hr1.out z2 ?_))
            intro g3 cap3 w3 hp3 hb3
            obtain ⟨cells3, hp3⟩ := hp3
            have P3 := Lib.hid hp3
            have hb13 : Below w1.heap.size w1 w3 := k2.trans hb3
            have b3 : Below w.heap.size w w3 := below_after hb13 k1
            have hr3 : Hid (Rd Cod.str w3 (.slice p1 nd c1) LD) := Lib.hid ((P1.out.own HLD.out).rd.below hb13)
            clear hp3 hb3
            go_wp2_with (at_builtin; go_must (refine wpList_append_flat (c := Cod.str) flat_str w3 rfl _ _ 22 (by rfl) w1.heap.size 9 i0 (.string ⟨#[]⟩) 16 Try.underlying22 hi hz0 hz1 hz2 rfl (by decide) (by decide) w3 _ (nt + 1) _ cells3 (by rfl) P3.out (by rw [List.length_append, HLT.out]; rfl) (Below.refl _ _) _ LD (by rfl) hr3.out Hr2.out (by have := hb13.size; omega) ?_))
            intro p4 cap4 w4 cells4 hp4 hb4
            have P4 := Lib.hid hp4
            have b4 : Below w.heap.size w w4 := ⟨hb4.os.trans b3.os, hb4.tape.trans b3.tape, hb4.output.trans b3.output, Nat.le_trans b3.size hb4.size, fun i hi => (hb4.block i (by omega)).trans (b3.block i hi)⟩
            clear hp4 hb4
            go_wp2
            go_ret
            exact put_post HP.out (by have := P4.out.own (by simp only [List.length_append, List.length_cons, List.length_nil, HLT.out]; omega); (try simp only [List.append_assoc, List.singleton_append, List.nil_append, List.append_nil] at this ⊢); exact this.mono (by omega)) b4
      · have Hq := Lib.hid (Hnx.out rfl)
        obtain ⟨h1, h2⟩ : Op.bytesLess x.toList s.toList = false ∧ (x.toList == s.toList) = false := Bool.or_eq_false_iff.1 hle
        clear HP1 HP2 Hnx hle
        go_wp2
        go_round
        case rel => exact ⟨m, by go_num, by omega, Hq⟩
        case measure => simp [intOf]; have := Hm.out; omega

end Go.Proofs.Ytibgpjkpfakgiaa
