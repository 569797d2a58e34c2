/- All frames from the front, both. -/
import Derived.Test.YtekgackednpdgaaFrame
import Derived.Test.YtekgackednpdgaaAppend
namespace Go.Proofs.Ytekgackednpdgaa
open Go.RowKit

theorem Try_info_str : (Try.prog.info? 9).map (fun i => (i.zero, i.size, i.bytes)) = some (some (.string ⟨#[]⟩), 1, 16) := by kernel_rfl

theorem own_below {w w' : World} {base : Nat} {e : TypeId} {size : Nat} {v : Value} {n : Nat} {xs : List Value} (h : w.ownsRow base e size v n xs) (k : Below w.heap.size w w') : w'.ownsRow base e size v n xs :=
  h.kept (row := none) ⟨k.os, k.tape, k.output, k.size, fun i hi _ => k.block i hi⟩ (by by_cases hv : v.ownBlock = none; exact .inl hv; exact .inr hv)

/-- The frames from a place on, and the place behind the last one. -/
noncomputable def framesF : Nat → ByteArray → Nat → List ByteArray × Nat
  | 0, _, st => ([], st)
  | k + 1, B, st => match frameOf B st with
    | some (s, p) => (s :: (framesF k B p).1, (framesF k B p).2)
    | none => ([], st)

theorem frameOf_lt {B : ByteArray} {st : Nat} {s : ByteArray} {p : Nat} (h : frameOf B st = some (s, p)) : st < p ∧ p ≤ B.size := by
  unfold frameOf at h
  cases hn : numOf (B.data.toList.drop st) with
  | none => rw [hn] at h; cases h
  | some n =>
    rw [hn] at h
    simp only [cond_eq_ite, Bool.and_eq_true, decide_eq_true_eq] at h
    split at h
    · rename_i hc
      injection h with h
      injection h with h1 h2
      omega
    · cases h

theorem framesF_le {B : ByteArray} : ∀ (k st : Nat), st ≤ B.size → (framesF k B st).2 ≤ B.size := by
  intro k
  induction k with
  | zero => intro st h; exact h
  | succ k ih =>
    intro st h
    unfold framesF
    cases hf : frameOf B st with
    | none => exact h
    | some sp => obtain ⟨s, p⟩ := sp; exact ih p (frameOf_lt hf).2

theorem framesF_none {B : ByteArray} {k st : Nat} (hk : 0 < k) (h : frameOf B st = none) : framesF k B st = ([], st) := by
  cases k with
  | zero => omega
  | succ k => unfold framesF; rw [h]
theorem framesF_some {B : ByteArray} {k st p : Nat} {s : ByteArray} (hk : 0 < k) (h : frameOf B st = some (s, p)) : framesF k B st = (s :: (framesF (k - 1) B p).1, (framesF (k - 1) B p).2) := by
  cases k with
  | zero => omega
  | succ k => rw [framesF, h]; rfl

/-- What reading all frames comes to. -/
def FramesPost (B : ByteArray) (w : World) (e : Ending) (w' : World) : Prop :=
  ∃ v, e = .returned (.tuple #[v, .int .i64 ((framesF (B.size + 1) B 0).2 : Int)]) ∧ w'.ownsRow w.heap.size 9 1 v (framesF (B.size + 1) B 0).1.length ((framesF (B.size + 1) B 0).1.map Value.string) ∧ Below w.heap.size w w'

set_option maxRecDepth 100000 in
set_option maxHeartbeats 1600000 in
/-- impl.framesOf -/
theorem framesOf_any (B : ByteArray) (hB : B.size ≤ 1048576) (w : World) : Calls Try.prog 87 #[.string B] w (FramesPost B w) := by
  obtain ⟨i0, hi, hz0, hz1, hz2⟩ := info_parts Try_info_str
  obtain ⟨F, hF⟩ : ∃ F, framesF (B.size + 1) B 0 = F := ⟨_, rfl⟩
  unfold FramesPost
  rw [hF]
  have HF := Lib.hid hF
  clear hF
  go_enter Try.func87, Try.ntmps87
  go_wp2
  go_loopg [4, 5] (B.size + 1) (fun gk v a wr => ∃ (l : List ByteArray) (st : Nat), a = .int .i64 (st : Int) ∧ st ≤ B.size ∧ l.length ≤ st ∧ Hid (B.size < st + gk) ∧ Hid (l ++ (framesF gk B st).1 = F.1 ∧ (framesF gk B st).2 = F.2) ∧ wr.ownsRow w.heap.size 9 1 v l.length (l.map Value.string) ∧ Below w.heap.size w wr)
  case atStart => exact ⟨[], 0, rfl, by omega, by simp, Lib.hid (by omega), Lib.hid (by rw [HF.out]; exact ⟨rfl, rfl⟩), World.ownsRow_made _ _ _ (Nat.le_refl _) (by simp) rfl, below_new _ _⟩
  case round =>
    obtain ⟨l, st, rfl, hst, hl, Hk, Hl, hown, hb⟩ := hrel
    have hbs := hb.size
    have Hroom : Hid ((l.length + 1) * 16 ≤ room) := Lib.hid (by unfold room; omega)
    have Hd := Lib.hid (readFrame_any B st hst hB)
    have Hkp : Hid (0 < gk) := Lib.hid (by have := Hk.out; omega)
    cases hf : frameOf B st with
    | none =>
      rw [frameP_none hf] at Hd
      have He := Lib.hid (framesF_none Hkp.out hf)
      clear hf
      have hl2 := Hl.out
      rw [He.out] at hl2
      obtain ⟨e1, e2⟩ := hl2
      rw [List.append_nil] at e1
      have E1 := Lib.hid e1
      have E2 := Lib.hid e2
      clear e1 e2
      go_wp2_with fail
      refine (Hd.out _).mono ?_
      rintro e w1 ⟨rfl, hb1⟩
      go_wp2
      go_ret2
      refine ⟨_, by rw [← E2.out]; rfl, ?_, below_after hb1 hb⟩
      rw [← E1.out]
      exact own_below hown hb1
    | some sp =>
      obtain ⟨s, p⟩ := sp
      rw [frameP_some hf] at Hd
      have He := Lib.hid (framesF_some Hkp.out hf)
      obtain ⟨hp1, hp2⟩ := frameOf_lt hf
      clear hf
      go_wp2_with fail
      refine (Hd.out _).mono ?_
      rintro e w1 ⟨rfl, hb1⟩
      have hown1 := own_below hown hb1
      have hb2 := below_after hb1 hb
      have hbs2 := hb2.size
      clear hown hb
      go_wp2_with (at_builtin; refine wpList_append_one w1 rfl _ _ 50 (by rfl) w.heap.size 9 i0 (.string ⟨#[]⟩) 1 16 Try.underlying50 hi hz0 hz1 hz2 rfl (by decide) (by decide) _ _ _ (by rfl) hown1 [.string s] rfl (by rfl) (by simp [Value.oneCell']) Hroom.out hbs2 ?_)
      intro v' w3 hown3 _ hb3
      have Ho := Lib.hid hown3
      clear hown3 hown1
      go_wp2
      go_roundg (gk - 1)
      case measure => have := Hkp.out; omega
      case rel =>
        refine ⟨l ++ [s], p, by go_num, hp2, by simp; omega, Lib.hid (by have := Hk.out; omega), Lib.hid ?_, by simpa using Ho.out, hb2.trans hb3⟩
        have hl2 := Hl.out
        rw [He.out] at hl2
        exact ⟨by rw [← hl2.1]; simp, hl2.2⟩

set_option maxRecDepth 100000 in
set_option maxHeartbeats 1600000 in
/-- spec.l6Frames -/
theorem l6Frames_any (B : ByteArray) (hB : B.size ≤ 1048576) (w : World) : Calls Try.prog 83 #[.string B] w (FramesPost B w) := by
  obtain ⟨i0, hi, hz0, hz1, hz2⟩ := info_parts Try_info_str
  obtain ⟨F, hF⟩ : ∃ F, framesF (B.size + 1) B 0 = F := ⟨_, rfl⟩
  unfold FramesPost
  rw [hF]
  have HF := Lib.hid hF
  clear hF
  go_enter Try.func83, Try.ntmps83
  go_wp2
  go_loopg [4, 5] (B.size + 1) (fun gk v a wr => ∃ (l : List ByteArray) (st : Nat), a = .int .i64 (st : Int) ∧ st ≤ B.size ∧ l.length ≤ st ∧ Hid (B.size < st + gk) ∧ Hid (l ++ (framesF gk B st).1 = F.1 ∧ (framesF gk B st).2 = F.2) ∧ wr.ownsRow w.heap.size 9 1 v l.length (l.map Value.string) ∧ Below w.heap.size w wr)
  case atStart => exact ⟨[], 0, rfl, by omega, by simp, Lib.hid (by omega), Lib.hid (by rw [HF.out]; exact ⟨rfl, rfl⟩), World.ownsRow_made _ _ _ (Nat.le_refl _) (by simp) rfl, below_new _ _⟩
  case round =>
    obtain ⟨l, st, rfl, hst, hl, Hk, Hl, hown, hb⟩ := hrel
    have hbs := hb.size
    have Hroom : Hid ((l.length + 1) * 16 ≤ room) := Lib.hid (by unfold room; omega)
    have Hd := Lib.hid (l6Read_any B st hst hB)
    have Hkp : Hid (0 < gk) := Lib.hid (by have := Hk.out; omega)
    cases hf : frameOf B st with
    | none =>
      rw [frameS_none hf] at Hd
      have He := Lib.hid (framesF_none Hkp.out hf)
      clear hf
      have hl2 := Hl.out
      rw [He.out] at hl2
      obtain ⟨e1, e2⟩ := hl2
      rw [List.append_nil] at e1
      have E1 := Lib.hid e1
      have E2 := Lib.hid e2
      clear e1 e2
      go_wp2_with fail
      refine (Hd.out _).mono ?_
      rintro e w1 ⟨rfl, hb1⟩
      go_wp2
      go_ret2
      refine ⟨_, by rw [← E2.out]; rfl, ?_, below_after hb1 hb⟩
      rw [← E1.out]
      exact own_below hown hb1
    | some sp =>
      obtain ⟨s, p⟩ := sp
      rw [frameS_some hf] at Hd
      have He := Lib.hid (framesF_some Hkp.out hf)
      obtain ⟨hp1, hp2⟩ := frameOf_lt hf
      clear hf
      go_wp2_with fail
      refine (Hd.out _).mono ?_
      rintro e w1 ⟨rfl, hb1⟩
      have hown1 := own_below hown hb1
      have hb2 := below_after hb1 hb
      have hbs2 := hb2.size
      clear hown hb
      go_wp2_with (at_builtin; refine wpList_append_one w1 rfl _ _ 50 (by rfl) w.heap.size 9 i0 (.string ⟨#[]⟩) 1 16 Try.underlying50 hi hz0 hz1 hz2 rfl (by decide) (by decide) _ _ _ (by rfl) hown1 [.string s] rfl (by rfl) (by simp [Value.oneCell']) Hroom.out hbs2 ?_)
      intro v' w3 hown3 _ hb3
      have Ho := Lib.hid hown3
      clear hown3 hown1
      go_wp2
      go_roundg (gk - 1)
      case measure => have := Hkp.out; omega
      case rel =>
        refine ⟨l ++ [s], p, by go_num, hp2, by simp; omega, Lib.hid (by have := Hk.out; omega), Lib.hid ?_, by simpa using Ho.out, hb2.trans hb3⟩
        have hl2 := Hl.out
        rw [He.out] at hl2
        exact ⟨by rw [← hl2.1]; simp, hl2.2⟩

end Go.Proofs.Ytekgackednpdgaa
