/- ReadTexts, spec's texts; both ReadTexts. -/
import Derived.Test.YtbkhooklieangaaTexts
namespace Go.Proofs.Ytbkhooklieangaa
open Go.RowKit

set_option maxRecDepth 100000 in
set_option maxHeartbeats 1600000 in
/-- spec.l1R.texts -/
theorem textsS_any (w : World) (g st : Nat) (B : ByteArray) (h : SrcAt w g B st false) (hst : st ≤ B.size) (hB : B.size ≤ 1048576) :
    Calls Try.prog 71 #[.pointer (some ⟨g, 0, none⟩)] w (TextsPost B st g w) := by
  obtain ⟨i0, hi, hz0, hz1, hz2⟩ := info_parts Try_info_str
  have hgl := h.lt
  obtain ⟨R, hR⟩ : ∃ R, textsOf B st = R := ⟨_, rfl⟩
  have HR := Lib.hid hR
  unfold TextsPost
  rw [hR]
  clear hR
  go_enter Try.func71, Try.ntmps71
  go_wp2_with fail
  refine (numS_any _ g st B h hst hB).mono ?_
  clear h
  rintro e w1 (⟨n, hn, rfl, hs, hg⟩ | ⟨hn, rfl, ⟨a, ha, hs⟩, hg⟩)
  · have hroom := num_room hst hn
    have hn1 := hn.1
    have Hn := Lib.hid hn
    clear hn
    obtain ⟨p, hp⟩ : ∃ p : Nat, st + (numL n).length = p := ⟨_, rfl⟩
    rw [hp] at hs hroom
    by_cases hbig : 40 < n
    · have hbig2 : (40 : Int) < (n : Int) := by omega
      have HN : Hid (R = none) := Lib.hid (by rw [← HR.out]; unfold textsOf; rw [numOf_some Hn.out]; simp only [show decide (n ≤ 40) = false from by simp; omega, cond_false])
      clear hp
      have hs' := hs
      obtain ⟨d0, d1, d2, g1, g2⟩ := hs'
      have hn0 : (0 : Int) < (n : Int) := by omega
      have hs2 := hs.setBad true
      have hgw := grown_set hg 2 (.bool true)
      go_wp2
      go_loopw [3, 4] (fun m v wr => m = .int .i64 (n : Int) ∧ v = .slice none 0 0 ∧ wr = w1.setCell ⟨g, 2, none⟩ (.bool true)) (fun _ _ _ => 0)
      case atStart => exact ⟨rfl, rfl, rfl⟩
      case round =>
        obtain ⟨rfl, rfl, rfl⟩ := hrel
        go_wp2
        go_ret
        exact ⟨_, [], p, true, rfl, hs2, hgw, World.ownsRow_nil _ _ _ _, Or.inr ⟨rfl, HN⟩⟩
    · have Hf : Hid (R = (textsF n B p).map fun r => ([] ++ r.1, r.2)) := Lib.hid (by
        rw [← HR.out, textsOf_eq Hn.out (by omega), hp]
        cases textsF n B p <;> rfl)
      have Hn40 := Lib.hid (show n ≤ 40 by omega)
      have hbig2 : (n : Int) ≤ 40 := by omega
      have hsz := hg.size
      clear hp hbig
      go_wp2
      go_loopw [3, 4] (fun mv v wr => ∃ (l : List ByteArray) (m at_ : Nat) (b : Bool), mv = .int .i64 (m : Int) ∧ l.length + m ≤ n ∧ at_ ≤ B.size ∧ SrcAt wr g B at_ b ∧ w.grownBy wr (some g) ∧ wr.ownsRow w.heap.size 9 1 v l.length (l.map Value.string) ∧ ((b = false ∧ Hid (R = (textsF m B at_).map fun r => (l ++ r.1, r.2))) ∨ (b = true ∧ Hid (R = none)))) (fun m _ _ => (intOf m).toNat)
      case atStart => exact ⟨[], n, p, false, rfl, by simp, hroom, hs, hg, World.ownsRow_nil _ _ _ _, Or.inl ⟨rfl, Hf⟩⟩
      case round =>
        obtain ⟨l, m, at_, b, rfl, hl, hat, hsr, hgr, hown, hb⟩ := hrel
        have hsr' := hsr
        obtain ⟨d0, d1, d2, g1, g2⟩ := hsr'
        have hmb : (m : Int) ≤ 40 := by omega
        rcases hb with ⟨rfl, Hb⟩ | ⟨rfl, Hb⟩
        · by_cases hlt : 0 < m
          · have hlt2 : (0 : Int) < (m : Int) := by omega
            have Hroom : Hid ((l.length + 1) * 16 ≤ room) := Lib.hid (by unfold room; omega)
            go_wp2_with fail
            refine (textS_any _ g at_ B hsr hat hB).mono ?_
            clear d0 d1 d2 g1 g2
            rintro e w2 (⟨k, hm, h6, hf, rfl, hs2, hg2⟩ | ⟨hm, rfl, ⟨a2, ha2, hs2⟩, hg2⟩)
            · have Ht := Lib.hid (textOf_some hm h6 hf)
              clear hm h6
              generalize B.extract (at_ + (numL k).length) (at_ + (numL k).length + k) = s at *
              generalize at_ + (numL k).length + k = p2 at *
              have hown2 := own_kept hown hg2 hgl
              have hg3 := grown_trans hgr hg2
              have hbs2 := hg3.size
              clear hown hg2 hgr
              go_wp2_with (at_builtin; refine wpList_append_one w2 rfl _ _ 56 (by rfl) w.heap.size 9 i0 (.string ⟨#[]⟩) 1 16 Try.underlying56 hi hz0 hz1 hz2 rfl (by decide) (by decide) _ _ _ (by rfl) hown2 [.string s] rfl (by rfl) (by simp [Value.oneCell']) Hroom.out hbs2 ?_)
              intro v' w3 hown3 _ hb3
              have Ho := Lib.hid hown3
              clear hown3 hown2
              go_wp2
              go_roundw
              case rel =>
                refine ⟨l ++ [s], m - 1, p2, false, by go_num, by simp; omega, hf, hs2.of_block (hb3.block g hgl), grown_belowB hg3 hb3, by simpa using Ho.out, Or.inl ⟨rfl, Lib.hid ?_⟩⟩
                rw [Hb.out, show m = (m - 1) + 1 from by omega, textsF_step Ht.out, Nat.add_sub_cancel]
                generalize textsF (m - 1) B p2 = z
                cases z <;> simp
              case measure => simp [intOf]; omega
            · have Ht := Lib.hid (textOf_none hm)
              clear hm
              have hown2 := own_kept hown hg2 hgl
              have hg3 := grown_trans hgr hg2
              have hbs2 := hg3.size
              clear hown hg2 hgr
              go_wp2_with (at_builtin; refine wpList_append_one w2 rfl _ _ 56 (by rfl) w.heap.size 9 i0 (.string ⟨#[]⟩) 1 16 Try.underlying56 hi hz0 hz1 hz2 rfl (by decide) (by decide) _ _ _ (by rfl) hown2 [.string ⟨#[]⟩] rfl (by rfl) (by simp [Value.oneCell']) Hroom.out hbs2 ?_)
              intro v' w3 hown3 _ hb3
              have Ho := Lib.hid hown3
              clear hown3 hown2
              go_wp2
              go_roundw
              case rel =>
                refine ⟨l ++ [⟨#[]⟩], m - 1, a2, true, by go_num, by simp; omega, ha2, hs2.of_block (hb3.block g hgl), grown_belowB hg3 hb3, by simpa using Ho.out, Or.inr ⟨rfl, Lib.hid ?_⟩⟩
                rw [Hb.out, show m = (m - 1) + 1 from by omega, textsF_stop Ht.out]
                rfl
              case measure => simp [intOf]; omega
          · obtain rfl : m = 0 := by omega
            go_wp2
            go_ret
            refine ⟨_, l, at_, false, rfl, hsr, hgr, hown, Or.inl ⟨rfl, Lib.hid ?_⟩⟩
            rw [Hb.out, textsF]
            simp
        · by_cases hlt : 0 < m
          · have hlt2 : (0 : Int) < (m : Int) := by omega
            go_wp2
            go_ret
            exact ⟨_, l, at_, true, rfl, hsr, hgr, hown, Or.inr ⟨rfl, Hb⟩⟩
          · obtain rfl : m = 0 := by omega
            go_wp2
            go_ret
            exact ⟨_, l, at_, true, rfl, hsr, hgr, hown, Or.inr ⟨rfl, Hb⟩⟩
  · have HN : Hid (R = none) := Lib.hid (by rw [← HR.out]; unfold textsOf; rw [numOf_none hn])
    clear hn
    have hsz := hg.size
    go_wp2
    go_loopw [3, 4] (fun m v wr => m = .int .i64 0 ∧ v = .slice none 0 0 ∧ wr = w1) (fun _ _ _ => 0)
    case atStart => exact ⟨rfl, rfl, rfl⟩
    case round =>
      obtain ⟨rfl, rfl, rfl⟩ := hrel
      go_wp2
      go_ret
      exact ⟨_, [], a, true, rfl, hs, hg, World.ownsRow_nil _ _ _ _, Or.inr ⟨rfl, HN⟩⟩

/-- What ReadTexts returns. -/
noncomputable def readTextsR (B : ByteArray) (at_ : Int) : List ByteArray × Int × Bool :=
  match placeB B at_ 6000, textsOf B at_.toNat with
  | true, some (l, p) => (l, (p : Int), true)
  | _, _ => ([], 0, false)
theorem readTextsR_length (B : ByteArray) (at_ : Int) : (readTextsR B at_).1.length ≤ 40 := by
  unfold readTextsR
  cases placeB B at_ 6000
  · simp
  · cases h : textsOf B at_.toNat with
    | none => simp
    | some r => obtain ⟨l, q⟩ := r; exact textsOf_length h

def ReadTextsPost (R : List ByteArray × Int × Bool) (w : World) (e : Ending) (w' : World) : Prop :=
  ∃ v, e = .returned (.tuple #[v, .int .i64 R.2.1, .bool R.2.2]) ∧ w'.ownsRow w.heap.size 9 1 v R.1.length (R.1.map Value.string) ∧ Below w.heap.size w w'

end Go.Proofs.Ytbkhooklieangaa
