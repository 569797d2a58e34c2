/- ReadTexts, both. -/
import Derived.Test.YtbkhooklieangaaKit
namespace Go.Proofs.Ytbkhooklieangaa
open Go.RowKit

/-- So many texts from a place on. -/
noncomputable def textsF : Nat → ByteArray → Nat → Option (List ByteArray × Nat)
  | 0, _, st => some ([], st)
  | n + 1, B, st => match textOf B st with
    | some (s, p) => (textsF n B p).map fun r => (s :: r.1, r.2)
    | none => none
noncomputable def textsOf (B : ByteArray) (st : Nat) : Option (List ByteArray × Nat) :=
  match numOf (B.data.toList.drop st) with
  | some n => bif decide (n ≤ 40) then textsF n B (st + (numL n).length) else none
  | none => none
theorem textsF_step {B : ByteArray} {n st p : Nat} {s : ByteArray} (h : textOf B st = some (s, p)) : textsF (n + 1) B st = (textsF n B p).map fun r => (s :: r.1, r.2) := by
  rw [textsF, h]
theorem textsF_stop {B : ByteArray} {n st : Nat} (h : textOf B st = none) : textsF (n + 1) B st = none := by
  rw [textsF, h]
theorem textsOf_eq {B : ByteArray} {n st : Nat} (hn : IsNum (B.data.toList.drop st) n) (h : n ≤ 40) : textsOf B st = textsF n B (st + (numL n).length) := by
  unfold textsOf
  rw [numOf_some hn]
  simp only [h, decide_true, cond_true]
theorem textsF_length {B : ByteArray} : ∀ (n st : Nat) (l : List ByteArray) (q : Nat), textsF n B st = some (l, q) → l.length = n := by
  intro n
  induction n with
  | zero => intro st l q h; injection h with h; injection h with h1 h2; subst h1; rfl
  | succ n ih =>
    intro st l q h
    unfold textsF at h
    cases ht : textOf B st with
    | none => rw [ht] at h; cases h
    | some sp =>
      obtain ⟨s, p⟩ := sp
      rw [ht] at h
      cases hf : textsF n B p with
      | none => simp only [hf, Option.map_none] at h; cases h
      | some r =>
        obtain ⟨l', q'⟩ := r
        simp only [hf, Option.map_some] at h
        injection h with h
        injection h with h1 h2
        subst h1
        simp [ih p l' q' hf]
theorem textsOf_length {B : ByteArray} {st : Nat} {l : List ByteArray} {q : Nat} (h : textsOf B st = some (l, q)) : l.length ≤ 40 := by
  unfold textsOf at h
  cases hn : numOf (B.data.toList.drop st) with
  | none => rw [hn] at h; cases h
  | some n =>
    rw [hn] at h
    by_cases h4 : n ≤ 40
    · simp only [h4, decide_true, cond_true] at h
      have := textsF_length n _ l q h
      omega
    · simp only [h4, decide_false, cond_false] at h
      cases h

theorem own_le {w : World} {base base' size n : Nat} {e : TypeId} {v : Value} {xs : List Value} (h : w.ownsRow base e size v n xs) (hb : base' ≤ base) : w.ownsRow base' e size v n xs := by
  refine ⟨h.1, ?_⟩
  rcases h.2 with h0 | ⟨g, cap, cur, hv, hg, hr⟩
  · exact Or.inl h0
  · exact Or.inr ⟨g, cap, cur, hv, Nat.le_trans hb hg, hr⟩
theorem own_kept {w w' : World} {base size n g : Nat} {e : TypeId} {v : Value} {xs : List Value} (h : w.ownsRow base e size v n xs) (k : w.grownBy w' (some g)) (hg : g < base) : w'.ownsRow base e size v n xs :=
  h.kept k (by
    cases hv : v.ownBlock with
    | none => exact Or.inl rfl
    | some b => exact Or.inr (by have := (h.lt b hv).1; intro e; injection e with e; omega))
theorem grown_belowB {a b c : World} {r : Option Nat} (h : a.grownBy b r) (k : Below a.heap.size b c) : a.grownBy c r :=
  ⟨k.os.trans h.os, k.tape.trans h.tape, k.output.trans h.output, Nat.le_trans h.size k.size, fun i hi hne => (k.block i hi).trans (h.block i hi hne)⟩

/-- What a reading of texts comes to. -/
def TextsPost (B : ByteArray) (st g : Nat) (w : World) (e : Ending) (w' : World) : Prop :=
  ∃ (v : Value) (l : List ByteArray) (at_ : Nat) (b : Bool), e = .returned v ∧ SrcAt w' g B at_ b ∧ w.grownBy w' (some g) ∧ w'.ownsRow w.heap.size 9 1 v l.length (l.map Value.string) ∧
    ((b = false ∧ Hid (textsOf B st = some (l, at_))) ∨ (b = true ∧ Hid (textsOf B st = none)))

set_option maxRecDepth 100000 in
set_option maxHeartbeats 1600000 in
/-- impl.source.texts -/
theorem texts_any (w : World) (g st : Nat) (B : ByteArray) (h : SrcAt w g B st false) (hst : st ≤ B.size) (hB : B.size ≤ 1048576) :
    Calls Try.prog 78 #[.pointer (some ⟨g, 0, none⟩)] w (TextsPost B st g w) := by
  obtain ⟨i0, hi, hz0, hz1, hz2⟩ := info_parts Try_info_str
  have hgl := h.lt
  obtain ⟨R, hR⟩ : ∃ R, textsOf B st = R := ⟨_, rfl⟩
  have HR := Lib.hid hR
  unfold TextsPost
  rw [hR]
  clear hR
  go_enter Try.func78, Try.ntmps78
  go_wp2_with fail
  refine (num_any _ g st B h hst hB).mono ?_
  clear h
  have key : ∀ (n : Nat) (p : Nat) (b : Bool) (w1 : World), True := fun _ _ _ _ => trivial
  clear key
  rintro e w1 (⟨n, hn, rfl, hs, hg⟩ | ⟨hn, rfl, ⟨a, ha, hs⟩, hg⟩)
  · have hroom := num_room hst hn
    have hn1 := hn.1
    have Hn := Lib.hid hn
    clear hn
    obtain ⟨p, hp⟩ : ∃ p : Nat, st + (numL n).length = p := ⟨_, rfl⟩
    rw [hp] at hs hroom
    by_cases hbig : 40 < n
    · have hbig2 : (40 : Int) < (n : Int) := by omega
      have HN : Hid (R = none) := Lib.hid (by rw [← HR.out]; unfold textsOf; rw [numOf_some Hn.out]; simp only [show decide (n ≤ 40) = false from by simp; omega, cond_false])
      clear hp
      go_wp2_with fail
      refine (fail_any _ g p B false hs).mono ?_
      rintro e w2 ⟨rfl, hs2, hg2⟩
      have hgw := grown_trans hg hg2
      have hsz := hgw.size
      obtain ⟨c0, c1, c2, f1, f2⟩ := hs2
      have hs3 : SrcAt w2 g B p true := ⟨c0, c1, c2, f1, f2⟩
      have hn0 : (0 : Int) < (n : Int) := by omega
      go_wp2
      go_loopw [4, 5] (fun v i wr => i = .int .i64 0 ∧ v = .slice (some ⟨w2.heap.size, 0, none⟩) 0 0 ∧ wr = w2.alloc (.cells #[] 9)) (fun _ i _ => n - (intOf i).toNat)
      case atStart => exact ⟨rfl, rfl, rfl⟩
      case round =>
        obtain ⟨rfl, rfl, rfl⟩ := hrel
        have hgl2 := hs3.lt
        go_wp2
        go_ret
        exact ⟨_, [], p, true, rfl, hs3.below (below_new _ _), grown_below hgw (below_new _ _), World.ownsRow_made _ _ _ hsz (by simp) rfl, Or.inr ⟨rfl, HN⟩⟩
    · have Hf : Hid (R = (textsF n B p).map fun r => ([] ++ r.1, r.2)) := Lib.hid (by
        rw [← HR.out, textsOf_eq Hn.out (by omega), hp]
        cases textsF n B p <;> rfl)
      have Hn40 := Lib.hid (show n ≤ 40 by omega)
      have hbig2 : (n : Int) ≤ 40 := by omega
      have hsz := hg.size
      clear hp hbig
      go_wp2
      go_loopw [4, 5] (fun v i wr => ∃ (l : List ByteArray) (k at_ : Nat) (b : Bool), i = .int .i64 (k : Int) ∧ k ≤ n ∧ l.length ≤ k ∧ at_ ≤ B.size ∧ SrcAt wr g B at_ b ∧ w.grownBy wr (some g) ∧ wr.ownsRow w.heap.size 9 1 v l.length (l.map Value.string) ∧ ((b = false ∧ Hid (R = (textsF (n - k) B at_).map fun r => (l ++ r.1, r.2))) ∨ (b = true ∧ Hid (R = none)))) (fun _ i _ => n - (intOf i).toNat)
      case atStart => exact ⟨[], 0, p, false, rfl, Nat.zero_le _, Nat.le_refl _, hroom, hs.below (below_new _ _), grown_below hg (below_new _ _), World.ownsRow_made _ _ _ hsz (by simp) rfl, Or.inl ⟨rfl, Hf⟩⟩
      case round =>
        obtain ⟨l, k, at_, b, rfl, hk, hl, hat, hsr, hgr, hown, hb⟩ := hrel
        have hsr' := hsr
        obtain ⟨d0, d1, d2, g1, g2⟩ := hsr'
        rcases hb with ⟨rfl, Hb⟩ | ⟨rfl, Hb⟩
        · by_cases hlt : k < n
          · have hlt2 : (k : Int) < (n : Int) := by omega
            have Hroom : Hid ((l.length + 1) * 16 ≤ room) := Lib.hid (by unfold room; omega)
            go_wp2_with fail
            refine (text_any _ g at_ B hsr hat hB).mono ?_
            clear d0 d1 d2 g1 g2
            rintro e w2 (⟨m, hm, h6, hf, rfl, hs2, hg2⟩ | ⟨hm, rfl, ⟨a2, ha2, hs2⟩, hg2⟩)
            · have Ht := Lib.hid (textOf_some hm h6 hf)
              clear hm h6
              generalize B.extract (at_ + (numL m).length) (at_ + (numL m).length + m) = s at *
              generalize at_ + (numL m).length + m = p2 at *
              have hown2 := own_kept hown hg2 hgl
              have hg3 := grown_trans hgr hg2
              have hbs2 := hg3.size
              clear hown hg2 hgr
              go_wp2_with (at_builtin; refine wpList_append_one w2 rfl _ _ 56 (by rfl) w.heap.size 9 i0 (.string ⟨#[]⟩) 1 16 Try.underlying56 hi hz0 hz1 hz2 rfl (by decide) (by decide) _ _ _ (by rfl) hown2 [.string s] rfl (by rfl) (by simp [Value.oneCell']) Hroom.out hbs2 ?_)
              intro v' w3 hown3 _ hb3
              have Ho := Lib.hid hown3
              clear hown3 hown2
              go_wp2
              go_roundw
              case rel =>
                refine ⟨l ++ [s], k + 1, p2, false, by go_num, by omega, by simp; omega, hf, hs2.of_block (hb3.block g hgl), grown_belowB hg3 hb3, by simpa using Ho.out, Or.inl ⟨rfl, Lib.hid ?_⟩⟩
                rw [Hb.out, show n - k = (n - (k + 1)) + 1 from by omega, textsF_step Ht.out]
                generalize textsF (n - (k + 1)) B p2 = z
                cases z <;> simp
              case measure => simp [intOf]; omega
            · have Ht := Lib.hid (textOf_none hm)
              clear hm
              have hown2 := own_kept hown hg2 hgl
              have hg3 := grown_trans hgr hg2
              have hbs2 := hg3.size
              clear hown hg2 hgr
              go_wp2_with (at_builtin; refine wpList_append_one w2 rfl _ _ 56 (by rfl) w.heap.size 9 i0 (.string ⟨#[]⟩) 1 16 Try.underlying56 hi hz0 hz1 hz2 rfl (by decide) (by decide) _ _ _ (by rfl) hown2 [.string ⟨#[]⟩] rfl (by rfl) (by simp [Value.oneCell']) Hroom.out hbs2 ?_)
              intro v' w3 hown3 _ hb3
              have Ho := Lib.hid hown3
              clear hown3 hown2
              go_wp2
              go_roundw
              case rel =>
                refine ⟨l ++ [⟨#[]⟩], k + 1, a2, true, by go_num, by omega, by simp; omega, ha2, hs2.of_block (hb3.block g hgl), grown_belowB hg3 hb3, by simpa using Ho.out, Or.inr ⟨rfl, Lib.hid ?_⟩⟩
                rw [Hb.out, show n - k = (n - (k + 1)) + 1 from by omega, textsF_stop Ht.out]
                rfl
              case measure => simp [intOf]; omega
          · have hlt2 : (n : Int) ≤ (k : Int) := by omega
            go_wp2
            go_ret
            refine ⟨_, l, at_, false, rfl, hsr, hgr, hown, Or.inl ⟨rfl, Lib.hid ?_⟩⟩
            rw [Hb.out, show n - k = 0 from by omega, textsF]
            simp
        · by_cases hlt : k < n
          · have hlt2 : (k : Int) < (n : Int) := by omega
            go_wp2
            go_ret
            exact ⟨_, l, at_, true, rfl, hsr, hgr, hown, Or.inr ⟨rfl, Hb⟩⟩
          · have hlt2 : (n : Int) ≤ (k : Int) := by omega
            go_wp2
            go_ret
            exact ⟨_, l, at_, true, rfl, hsr, hgr, hown, Or.inr ⟨rfl, Hb⟩⟩
  · have HN : Hid (R = none) := Lib.hid (by rw [← HR.out]; unfold textsOf; rw [numOf_none hn])
    clear hn
    have hsz := hg.size
    go_wp2
    go_loopw [4, 5] (fun v i wr => i = .int .i64 0 ∧ v = .slice (some ⟨w1.heap.size, 0, none⟩) 0 0 ∧ wr = w1.alloc (.cells #[] 9)) (fun _ i _ => 0 - (intOf i).toNat)
    case atStart => exact ⟨rfl, rfl, rfl⟩
    case round =>
      obtain ⟨rfl, rfl, rfl⟩ := hrel
      go_wp2
      go_ret
      exact ⟨_, [], a, true, rfl, hs.below (below_new _ _), grown_below hg (below_new _ _), World.ownsRow_made _ _ _ hsz (by simp) rfl, Or.inr ⟨rfl, HN⟩⟩

end Go.Proofs.Ytbkhooklieangaa
