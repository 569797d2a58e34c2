/- What a fall leaves of frames: the frames that are whole, and no other. Plain; no program. -/
import Derived.Test.YtkiebgmcjkfpaaaCut
import Derived.Test.YtkiebgmcjkfpaaaDisk4
namespace Go.Proofs.Ytkiebgmcjkfpaaa
open Go.RowKit

/-- The bytes as a list. -/
abbrev bl (x : ByteArray) : List UInt8 := x.data.toList
theorem bl_app (x y : ByteArray) : bl (x ++ y) = bl x ++ bl y := by simp
theorem bl_len (x : ByteArray) : (bl x).length = x.size := by rw [Array.length_toList]; rfl
theorem bl_ext (x : ByteArray) (a b : Nat) : bl (x.extract a b) = ((bl x).take b).drop a := by
  show (x.extract a b).data.toList = _
  rw [ByteArray.data_extract, Array.toList_extract, List.extract_eq_take_drop, List.drop_take]
theorem bl_inj {x y : ByteArray} (h : bl x = bl y) : x = y := by
  cases x; cases y
  simpa using h

/-- Where the frames of a list end. -/
def catZ (l : List ByteArray) (j : Nat) : Nat := (catF (l.take j)).size

theorem catF_app (a b : List ByteArray) : catF (a ++ b) = catF a ++ catF b := by
  induction a with
  | nil => show catF b = ⟨#[]⟩ ++ catF b; rw [show (⟨#[]⟩ : ByteArray) = ByteArray.empty from rfl, ByteArray.empty_append]
  | cons s a ih => show frameB s ++ catF (a ++ b) = (frameB s ++ catF a) ++ catF b; rw [ih, ByteArray.append_assoc]

theorem catZ_succ {l : List ByteArray} {j : Nat} (h : j < l.length) : catZ l (j + 1) = catZ l j + (frameB l[j]).size := by
  unfold catZ
  rw [List.take_succ_eq_append_getElem h, catF_size_snoc]

theorem frame_pos (s : ByteArray) : 4 ≤ (frameB s).size := by
  unfold frameB
  rw [ByteArray.size_append, sealB_size]
  have : 1 ≤ (numB s.size).size := by
    show 1 ≤ (numL s.size).toArray.size
    obtain ⟨i, z, e, _⟩ := numL_shape s.size
    rw [e]
    simp
  omega

theorem catZ_mono {l : List ByteArray} : ∀ {j i : Nat}, i ≤ j → j ≤ l.length → catZ l i ≤ catZ l j
  | 0, i, hi, _ => by obtain rfl : i = 0 := by omega
                      exact Nat.le_refl _
  | j + 1, i, hi, hj => by
    by_cases e : i = j + 1
    · subst e; exact Nat.le_refl _
    · have h1 := catZ_mono (l := l) (show i ≤ j by omega) (by omega)
      rw [catZ_succ (by omega)]
      omega
theorem catZ_lt {l : List ByteArray} {i j : Nat} (h : i < j) (hj : j ≤ l.length) : catZ l i < catZ l j := by
  have h1 := catZ_mono (l := l) (show i + 1 ≤ j by omega) hj
  rw [catZ_succ (by omega)] at h1
  have := frame_pos (l[i]'(by omega))
  omega
theorem catZ_all (l : List ByteArray) : catZ l l.length = (catF l).size := by unfold catZ; rw [List.take_length]

/-- The bytes of the whole from the j-th frame on. -/
theorem cat_drop {l : List ByteArray} {j : Nat} (h : j < l.length) : (bl (catF l)).drop (catZ l j) = bl (frameB l[j]) ++ bl (catF (l.drop (j + 1))) := by
  have e : catF l = catF (l.take j) ++ (frameB l[j] ++ catF (l.drop (j + 1))) := by
    have : l = l.take j ++ l[j] :: l.drop (j + 1) := by rw [← List.drop_eq_getElem_cons h, List.take_append_drop]
    exact (congrArg catF this).trans (catF_app _ _)
  rw [e, bl_app, List.drop_append_of_le_length (by rw [bl_len]; exact Nat.le_refl _), List.drop_of_length_le (by rw [bl_len]; exact Nat.le_refl _), List.nil_append, bl_app]

theorem num_here {B : ByteArray} {p : Nat} {s : ByteArray} {rest : List UInt8} (hs : s.size ≤ 100) (h : (bl B).drop p = UInt8.ofNat s.size :: rest) : IsNum (B.data.toList.drop p) s.size := by
  refine ⟨by omega, ?_⟩
  rw [numL_small (by omega), show B.data.toList.drop p = _ from h]
  exact ⟨rest, rfl⟩

theorem frame_list {s : ByteArray} (hs : s.size ≤ 100) : bl (frameB s) = UInt8.ofNat s.size :: (bl s ++ bl (threeB (sumL s.data.toList))) := by
  unfold frameB sealB
  rw [bl_app, bl_app]
  show numL s.size ++ _ = _
  rw [numL_small (by omega)]
  rfl
theorem frame_size {s : ByteArray} (hs : s.size ≤ 100) : (frameB s).size = s.size + 4 := by
  rw [← bl_len, frame_list hs]
  simp
  rfl

/-- A frame that stands there whole is read. -/
theorem frame_read {B : ByteArray} {p : Nat} {s : ByteArray} {rest : List UInt8} (hs : s.size ≤ 100) (h : (bl B).drop p = bl (frameB s) ++ rest) : frameOf B p = some (s, p + (frameB s).size) := by
  have hB : B.size = p + (frameB s).size + rest.length ∨ B.size ≤ p := by
    have := congrArg List.length h
    rw [List.length_drop, List.length_append, bl_len, bl_len] at this
    omega
  have hpos := frame_pos s
  have hB : B.size = p + (frameB s).size + rest.length := by
    rcases hB with h1 | h1
    · exact h1
    · have := congrArg List.length h
      rw [List.length_drop, List.length_append, bl_len, bl_len] at this
      omega
  have hz := frame_size hs
  have hn : IsNum (B.data.toList.drop p) s.size := num_here hs (by rw [h, frame_list hs]; rfl)
  have hnl : (numL s.size).length = 1 := by rw [numL_small (by omega)]; rfl
  have hex : B.extract p (p + 1 + s.size + 3) = frameB s := by
    apply bl_inj
    rw [bl_ext]
    have : ((bl B).take (p + 1 + s.size + 3)).drop p = ((bl B).drop p).take (frameB s).size := by
      rw [List.drop_take, hz]
      congr 1
      omega
    rw [this, h, List.take_append_of_le_length (by rw [bl_len]; exact Nat.le_refl _), List.take_of_length_le (by rw [bl_len]; exact Nat.le_refl _)]
  have hsx : B.extract (p + 1) (p + 1 + s.size) = s := by
    apply bl_inj
    rw [bl_ext]
    have : ((bl B).take (p + 1 + s.size)).drop (p + 1) = (((bl B).drop p).drop 1).take s.size := by
      rw [List.drop_take, List.drop_drop]
      congr 1
      · omega
    rw [this, h, frame_list hs]
    simp only [List.cons_append, List.drop_succ_cons, List.drop_zero, List.append_assoc]
    rw [List.take_append_of_le_length (by rw [bl_len]; exact Nat.le_refl _), List.take_of_length_le (by rw [bl_len]; exact Nat.le_refl _)]
  have hi := frame_iff (B := B) (st := p) hn (show p + (numL s.size).length = p + 1 by rw [hnl]) (by omega)
  rw [hsx, hex] at hi
  have h2 := frameOf_some (B := B) (st := p) (p := p + 1) hn (by rw [hnl]) (by omega) (by omega) (by rw [hsx]; exact hi.1 rfl)
  rw [hsx] at h2
  rw [h2, hz]
  congr 2
  omega

/-- Bytes that are too few, or end wrongly, are not. -/
theorem frame_not {B : ByteArray} {p : Nat} {s : ByteArray} {k : Nat} {b : UInt8} (hs : s.size ≤ 100) (hk : k < (frameB s).size) (torn : Bool)
    (h : (bl B).drop p = (bl (frameB s)).take k ++ (if torn = true then [b] else [])) (hb : torn = true → b ≠ (bl (frameB s)).getD k 0 ∧ (k = 0 → 128 ≤ b.toNat)) (hp : p ≤ B.size) : frameOf B p = none := by
  have hz := frame_size hs
  have hfl := frame_list hs
  have hlen : (bl (frameB s)).length = s.size + 4 := by rw [bl_len, hz]
  have hBs : B.size = p + k + (if torn = true then 1 else 0) := by
    have := congrArg List.length h
    rw [List.length_drop, List.length_append, List.length_take, bl_len, hlen] at this
    split at this <;> simp at this <;> simp_all <;> omega
  have hnl : (numL s.size).length = 1 := by rw [numL_small (by omega)]; rfl
  cases k with
  | zero =>
    apply frameOf_none
    intro n hn
    have h2 : B.data.toList.drop p = (if torn = true then [b] else []) := by simpa using h
    obtain ⟨_, r, hr⟩ := hn
    rw [h2] at hr
    obtain ⟨i, z, e, hi, hz2⟩ := numL_shape n
    cases torn
    · rw [e] at hr
      simp at hr
    · simp only [if_true] at hr
      have : numL n = [b] := by
        rw [e] at hr ⊢
        cases i with
        | nil => simp at hr ⊢; exact hr.1
        | cons c i => have := congrArg List.length hr; simp at this
      rw [e] at this
      cases i with
      | nil =>
        simp at this
        subst this
        have := (hb rfl).2 rfl
        omega
      | cons c i => have := congrArg List.length this; simp at this
  | succ k =>
    have hn : IsNum (B.data.toList.drop p) s.size := num_here (rest := (bl s ++ bl (threeB (sumL s.data.toList))).take k ++ (if torn = true then [b] else [])) hs (by rw [h, hfl]; rfl)
    by_cases hsh : B.size < p + (numL s.size).length + s.size + 3
    · exact frameOf_short hn hsh
    · rw [hnl] at hsh
      have ht : torn = true := by
        cases torn
        · simp at hBs; omega
        · rfl
      subst ht
      simp only [if_true] at hBs h
      have hk3 : k = s.size + 2 := by omega
      have hex : B.extract p (p + 1 + s.size + 3) ≠ frameB s := by
        intro e
        have e2 := congrArg bl e
        rw [bl_ext, List.take_of_length_le (by rw [bl_len]; omega), show List.drop p (bl B) = _ from h] at e2
        have e3 := congrArg (fun l => l.getD (k + 1) 0) e2
        have h3 : ((bl (frameB s)).take (k + 1)).length = k + 1 := by rw [List.length_take, hlen]; omega
        simp only [List.getD_eq_getElem?_getD] at e3
        rw [List.getElem?_append_right (by omega), h3, Nat.sub_self] at e3
        exact (hb rfl).1 (by simpa [List.getD_eq_getElem?_getD] using e3)
      have hsx : B.extract (p + 1) (p + 1 + s.size) = s := by
        apply bl_inj
        rw [bl_ext]
        have : ((bl B).take (p + 1 + s.size)).drop (p + 1) = (((bl B).drop p).drop 1).take s.size := by
          rw [List.drop_take, List.drop_drop]
          congr 1
          omega
        rw [this, h, hfl, hk3]
        simp only [List.take_succ_cons, List.cons_append, List.drop_succ_cons, List.drop_zero]
        rw [List.take_append_of_le_length (by rw [List.length_take, List.length_append, bl_len]; omega), List.take_take, Nat.min_eq_left (by omega), List.take_append_of_le_length (by rw [bl_len]; exact Nat.le_refl _), List.take_of_length_le (by rw [bl_len]; exact Nat.le_refl _)]
      have hi := frame_iff (B := B) (st := p) hn (show p + (numL s.size).length = p + 1 by rw [hnl]) (by omega)
      rw [hsx] at hi
      refine frameOf_bad (p := p + 1) hn (by rw [hnl]) ?_
      rw [hsx]
      exact fun e => hex (hi.2 e).symm

theorem frame_end {B : ByteArray} {p : Nat} (h : (bl B).drop p = []) : frameOf B p = none := by
  apply frameOf_none
  rintro n ⟨_, r, hr⟩
  rw [show B.data.toList.drop p = [] from h] at hr
  obtain ⟨i, z, e, _⟩ := numL_shape n
  rw [e] at hr
  simp at hr

/-- What is read of bytes of which the first E are those of the frames, and one more behind them is turned. -/
theorem frames_fall {l : List ByteArray} (hl : ∀ s ∈ l, s.size ≤ 100) {B : ByteArray} {E W : Nat} {b : UInt8} (torn : Bool) (hE : E + (if torn = true then 1 else 0) ≤ (catF l).size)
    (hB : bl B = (bl (catF l)).take E ++ (if torn = true then [b] else [])) (hb : torn = true → b = UInt8.ofNat (255 - ((bl (catF l)).getD E 0).toNat))
    (hW : W ≤ l.length) (hcond : ∀ j, j < l.length → (catZ l (j + 1) ≤ E ↔ j < W)) : ∀ (d k fuel : Nat), W - k = d → k ≤ W → W < fuel + k → (framesF fuel B (catZ l k)).1 = (l.take W).drop k := by
  have hlow : ∀ k, k ≤ W → catZ l k ≤ E := fun k hk => by
    cases k with
    | zero => exact Nat.zero_le _
    | succ k => exact (hcond k (by omega)).2 (by omega)
  have hlE : E ≤ (bl (catF l)).length := by rw [bl_len]; omega
  have hd : ∀ p, p ≤ E → (bl B).drop p = ((bl (catF l)).drop p).take (E - p) ++ (if torn = true then [b] else []) := fun p hp => by
    rw [hB, List.drop_append_of_le_length (by rw [List.length_take]; omega), List.drop_take]
  intro d
  induction d with
  | zero =>
    intro k fuel h1 h2 h3
    obtain rfl : k = W := by omega
    have hk := hlow k (Nat.le_refl _)
    rw [List.drop_of_length_le (by rw [List.length_take]; omega)]
    rw [framesF_none (by omega)]
    rcases Nat.lt_or_ge k l.length with h | h
    · have hup : ¬ catZ l (k + 1) ≤ E := fun h4 => by have := (hcond k h).1 h4; omega
      rw [catZ_succ h] at hup
      have hs := hl _ (List.getElem_mem h)
      have hlf : (bl (frameB l[k])).length = (frameB l[k]).size := bl_len _
      have h4 := hd _ hk
      rw [cat_drop h, List.take_append_of_le_length (by omega)] at h4
      refine frame_not hs (k := E - catZ l k) (by omega) torn h4 (fun ht => ?_) ?_
      · have hg : (bl (catF l)).getD E 0 = (bl (frameB l[k])).getD (E - catZ l k) 0 := by
          have e1 : (bl (catF l)).getD E 0 = ((bl (catF l)).drop (catZ l k)).getD (E - catZ l k) 0 := by
            simp only [List.getD_eq_getElem?_getD, List.getElem?_drop]
            rw [show catZ l k + (E - catZ l k) = E by omega]
          rw [e1, cat_drop h]
          simp only [List.getD_eq_getElem?_getD]
          rw [List.getElem?_append_left (by omega)]
        have hb2 := hb ht
        rw [hg] at hb2
        generalize hc : (bl (frameB l[k])).getD (E - catZ l k) 0 = c at *
        have hlt := c.toNat_lt
        have hbn : b.toNat = 255 - c.toNat := by rw [hb2, toNat_ofNat_lt (by omega)]
        refine ⟨fun e => by rw [e] at hbn; omega, fun h0 => ?_⟩
        rw [h0, frame_list hs] at hc
        simp at hc
        have : c.toNat = l[k].size := by rw [← hc, toNat_ofNat_lt (by omega)]
        omega
      · have := congrArg List.length hB
        rw [bl_len, List.length_append, List.length_take] at this
        omega
    · obtain rfl : k = l.length := by omega
      apply frame_end
      rw [catZ_all] at hk ⊢
      have ht : torn = false := by
        cases torn
        · rfl
        · simp at hE; omega
      subst ht
      have h4 := hd _ hk
      rw [h4, List.drop_of_length_le (by rw [bl_len]; exact Nat.le_refl _)]
      simp
  | succ d ih =>
    intro k fuel h1 h2 h3
    have hkl : k < l.length := by omega
    have hk := hlow k (by omega)
    have hk1 := hlow (k + 1) (by omega)
    rw [catZ_succ hkl] at hk1
    have hlf : (bl (frameB l[k])).length = (frameB l[k]).size := bl_len _
    have h4 := hd _ hk
    rw [cat_drop hkl, List.take_append, List.take_of_length_le (by omega), List.append_assoc] at h4
    have h5 := frame_read (hl _ (List.getElem_mem hkl)) h4
    rw [framesF_some (by omega) h5, ← catZ_succ hkl, ih (k + 1) (fuel - 1) (by omega) (by omega) (by omega)]
    rw [List.drop_eq_getElem_cons (l := l.take W) (i := k) (by rw [List.length_take]; omega)]
    simp

end Go.Proofs.Ytkiebgmcjkfpaaa
