/- What ReadRec comes to: plain. Printed by mkrdrec.py. -/
import Derived.Test.YtbkhooklieangaaSrcO
import Derived.Test.YtbkhooklieangaaRecB
import Derived.Test.YtbkhooklieangaaBytes3
namespace Go.Proofs.Ytbkhooklieangaa
open Go.RowKit

/-- So many writes from whatever state. -/
noncomputable def writesO : Nat → ByteArray → Option Nat → Option (List WriteD × Nat)
  | 0, _, o => o.map fun st => ([], st)
  | n + 1, B, o => (textO B o).bind fun k => (oneO B (some k.2)).bind fun g => (textO B (some g.2)).bind fun v => (writesO n B (some v.2)).map fun r => (⟨k.1, v.1, g.1⟩ :: r.1, r.2)
/-- A record from the beginning. -/
noncomputable def recO (B : ByteArray) : Option (RecD × Nat) :=
  (numO B (some 0)).bind fun k => (numO B (some k.2)).bind fun t => (numO B (some t.2)).bind fun ti => (numO B (some ti.2)).bind fun l => (oneO B (some l.2)).bind fun y => (textsO B (some y.2)).bind fun rs =>
    (numO B (some rs.2)).bind fun m => (writesO m.1 B (some m.2)).map fun ws => (⟨(k.1 : Int), (t.1 : Int), (ti.1 : Int), (l.1 : Int), rs.1, ws.1, y.1⟩, ws.2)

theorem writesO_none (n : Nat) (B : ByteArray) : writesO n B none = none := by cases n <;> rfl
theorem Got.none_step {α : Type} {f : Option Nat → Option (α × Nat)} (hf : f none = none) {x : α} {o : Option Nat} (g : Got (f none) x o) : o = none := by
  cases o with
  | none => rfl
  | some st =>
    have g' : f none = some (x, st) := g
    rw [hf] at g'
    cases g'

theorem Got.pos {α : Type} {f : Option Nat → Option (α × Nat)} (hf : f none = none) {x : α} {o : Option Nat} {st : Nat} (g : Got (f o) x (some st)) : o ≠ none := by
  rintro rfl
  cases Got.none_step hf g

theorem rec_got {B : ByteArray} {n1 n2 n3 n4 m : Nat} {y : Bool} {rs : List ByteArray} {ws : List WriteD} {o1 o2 o3 o4 o5 o6 o7 o8 : Option Nat}
    (g1 : Got (numO B (some 0)) n1 o1) (g2 : Got (numO B o1) n2 o2) (g3 : Got (numO B o2) n3 o3) (g4 : Got (numO B o3) n4 o4) (g5 : Got (oneO B o4) y o5) (g6 : Got (textsO B o5) rs o6) (g7 : Got (numO B o6) m o7) (g8 : Got (writesO m B o7) ws o8) :
    Got (recO B) (⟨(n1 : Int), (n2 : Int), (n3 : Int), (n4 : Int), rs, ws, y⟩ : RecD) o8 := by
  have key : ∀ {o8 : Option Nat}, o8 = none → recO B = none → Got (recO B) (⟨(n1 : Int), (n2 : Int), (n3 : Int), (n4 : Int), rs, ws, y⟩ : RecD) o8 := fun h k => by subst h; exact k
  rcases o1 with _ | s1
  · have e1 : numO B (some 0) = none := g1
    obtain rfl := Got.none_step (f := numO B) rfl g2
    obtain rfl := Got.none_step (f := numO B) rfl g3
    obtain rfl := Got.none_step (f := numO B) rfl g4
    obtain rfl := Got.none_step (f := oneO B) rfl g5
    obtain rfl := Got.none_step (f := textsO B) rfl g6
    obtain rfl := Got.none_step (f := numO B) rfl g7
    obtain rfl := Got.none_step (f := writesO m B) (writesO_none m B) g8
    exact key rfl (by unfold recO; simp only [e1, Option.bind_some, Option.bind_none, Option.map_none])
  have e1 : numO B (some 0) = some (n1, s1) := g1
  rcases o2 with _ | s2
  · have e2 : numO B (some s1) = none := g2
    obtain rfl := Got.none_step (f := numO B) rfl g3
    obtain rfl := Got.none_step (f := numO B) rfl g4
    obtain rfl := Got.none_step (f := oneO B) rfl g5
    obtain rfl := Got.none_step (f := textsO B) rfl g6
    obtain rfl := Got.none_step (f := numO B) rfl g7
    obtain rfl := Got.none_step (f := writesO m B) (writesO_none m B) g8
    exact key rfl (by unfold recO; simp only [e1, e2, Option.bind_some, Option.bind_none, Option.map_none])
  have e2 : numO B (some s1) = some (n2, s2) := g2
  rcases o3 with _ | s3
  · have e3 : numO B (some s2) = none := g3
    obtain rfl := Got.none_step (f := numO B) rfl g4
    obtain rfl := Got.none_step (f := oneO B) rfl g5
    obtain rfl := Got.none_step (f := textsO B) rfl g6
    obtain rfl := Got.none_step (f := numO B) rfl g7
    obtain rfl := Got.none_step (f := writesO m B) (writesO_none m B) g8
    exact key rfl (by unfold recO; simp only [e1, e2, e3, Option.bind_some, Option.bind_none, Option.map_none])
  have e3 : numO B (some s2) = some (n3, s3) := g3
  rcases o4 with _ | s4
  · have e4 : numO B (some s3) = none := g4
    obtain rfl := Got.none_step (f := oneO B) rfl g5
    obtain rfl := Got.none_step (f := textsO B) rfl g6
    obtain rfl := Got.none_step (f := numO B) rfl g7
    obtain rfl := Got.none_step (f := writesO m B) (writesO_none m B) g8
    exact key rfl (by unfold recO; simp only [e1, e2, e3, e4, Option.bind_some, Option.bind_none, Option.map_none])
  have e4 : numO B (some s3) = some (n4, s4) := g4
  rcases o5 with _ | s5
  · have e5 : oneO B (some s4) = none := g5
    obtain rfl := Got.none_step (f := textsO B) rfl g6
    obtain rfl := Got.none_step (f := numO B) rfl g7
    obtain rfl := Got.none_step (f := writesO m B) (writesO_none m B) g8
    exact key rfl (by unfold recO; simp only [e1, e2, e3, e4, e5, Option.bind_some, Option.bind_none, Option.map_none])
  have e5 : oneO B (some s4) = some (y, s5) := g5
  rcases o6 with _ | s6
  · have e6 : textsO B (some s5) = none := g6
    obtain rfl := Got.none_step (f := numO B) rfl g7
    obtain rfl := Got.none_step (f := writesO m B) (writesO_none m B) g8
    exact key rfl (by unfold recO; simp only [e1, e2, e3, e4, e5, e6, Option.bind_some, Option.bind_none, Option.map_none])
  have e6 : textsO B (some s5) = some (rs, s6) := g6
  rcases o7 with _ | s7
  · have e7 : numO B (some s6) = none := g7
    obtain rfl := Got.none_step (f := writesO m B) (writesO_none m B) g8
    exact key rfl (by unfold recO; simp only [e1, e2, e3, e4, e5, e6, e7, Option.bind_some, Option.bind_none, Option.map_none])
  have e7 : numO B (some s6) = some (m, s7) := g7
  rcases o8 with _ | s8
  · have e8 : writesO m B (some s7) = none := g8
    exact key rfl (by unfold recO; simp only [e1, e2, e3, e4, e5, e6, e7, e8, Option.bind_some, Option.bind_none, Option.map_none])
  have e8 : writesO m B (some s7) = some (ws, s8) := g8
  show recO B = some _
  unfold recO
  simp only [e1, e2, e3, e4, e5, e6, e7, e8, Option.bind_some, Option.map_some]

/-- Where the reading of writes stands. -/
def WrAt (B : ByteArray) (m : Nat) (o7 : Option Nat) (k : Nat) (l : List WriteD) : Option Nat → Prop
  | some st => writesO m B o7 = (writesO (m - k) B (some st)).map (fun r => (l ++ r.1, r.2)) ∧ k ≤ st ∧ st ≤ B.size
  | none => writesO m B o7 = none
theorem wat_start {B : ByteArray} {m : Nat} {o7 : Option Nat} (h : ∀ st, o7 = some st → st ≤ B.size) : WrAt B m o7 0 [] o7 := by
  cases o7 with
  | none => exact writesO_none m B
  | some st => exact ⟨by rw [Nat.sub_zero]; cases writesO m B (some st) <;> rfl, Nat.zero_le _, h st rfl⟩
theorem textO_end {B : ByteArray} {st p : Nat} {s : ByteArray} (h : textO B (some st) = some (s, p)) : st < p ∧ p ≤ B.size := by
  have h' : textOf B st = some (s, p) := h
  refine ⟨?_, (textOf_end h').1⟩
  unfold textOf at h'
  cases hn : numOf (B.data.toList.drop st) with
  | none => rw [hn] at h'; cases h'
  | some n =>
    rw [hn] at h'
    by_cases h1 : n ≤ 60
    · by_cases h2 : st + (numL n).length + n ≤ B.size
      · simp only [h1, h2, decide_true, Bool.and_true, cond_true] at h'
        injection h' with h'
        injection h' with h3 h4
        obtain ⟨i, z, e, _⟩ := numL_shape n
        have : 0 < (numL n).length := by rw [e]; simp
        omega
      · simp only [h2, decide_false, Bool.and_false, cond_false] at h'
        cases h'
    · simp only [h1, decide_false, Bool.false_and, cond_false] at h'
      cases h'
theorem oneO_end {B : ByteArray} {st p : Nat} {y : Bool} (h : oneO B (some st) = some (y, p)) : st < p ∧ p ≤ B.size := by
  have h' : (if h : st < B.size then some (B[st] == 1, st + 1) else none) = some (y, p) := h
  by_cases hl : st < B.size
  · rw [dif_pos hl] at h'
    injection h' with h'
    injection h' with h3 h4
    omega
  · rw [dif_neg hl] at h'
    cases h'
theorem wat_step {B : ByteArray} {m : Nat} {o7 : Option Nat} {k st : Nat} {l : List WriteD} (h : WrAt B m o7 k l (some st)) (hk : k < m) {a v : ByteArray} {y : Bool} {o1 o2 o3 : Option Nat}
    (g1 : Got (textO B (some st)) a o1) (g2 : Got (oneO B o1) y o2) (g3 : Got (textO B o2) v o3) : WrAt B m o7 (k + 1) (l ++ [⟨a, v, y⟩]) o3 := by
  obtain ⟨h1, h2, h3⟩ := h
  have hm : m - k = (m - (k + 1)) + 1 := by omega
  rw [hm] at h1
  rcases o1 with _ | s1
  · have e1 : textO B (some st) = none := g1
    obtain rfl := Got.none_step (f := oneO B) rfl g2
    obtain rfl := Got.none_step (f := textO B) rfl g3
    show writesO m B o7 = none
    rw [h1, writesO, e1]
    rfl
  have e1 : textO B (some st) = some (a, s1) := g1
  rcases o2 with _ | s2
  · have e2 : oneO B (some s1) = none := g2
    obtain rfl := Got.none_step (f := textO B) rfl g3
    show writesO m B o7 = none
    rw [h1, writesO, e1]
    simp only [Option.bind_some, e2, Option.bind_none, Option.map_none]
  have e2 : oneO B (some s1) = some (y, s2) := g2
  rcases o3 with _ | s3
  · have e3 : textO B (some s2) = none := g3
    show writesO m B o7 = none
    rw [h1, writesO, e1]
    simp only [Option.bind_some, e2, e3, Option.bind_none, Option.map_none]
  have e3 : textO B (some s2) = some (v, s3) := g3
  have q1 := textO_end e1
  have q2 := oneO_end e2
  have q3 := textO_end e3
  refine ⟨?_, by omega, q3.2⟩
  rw [h1, writesO, e1]
  simp only [Option.bind_some, e2, e3]
  cases writesO (m - (k + 1)) B (some s3) with
  | none => rfl
  | some r => simp only [Option.map_some, List.append_assoc, List.singleton_append]
theorem wat_end {B : ByteArray} {m : Nat} {o7 o : Option Nat} {k : Nat} {l : List WriteD} (h : WrAt B m o7 k l o) (hk : o = none ∨ k = m) : Got (writesO m B o7) l o := by
  cases o with
  | none => exact h
  | some st =>
    obtain ⟨h1, _, _⟩ := h
    obtain rfl : k = m := by rcases hk with h | h; cases h; exact h
    rw [Nat.sub_self] at h1
    show writesO k B o7 = some (l, st)
    rw [h1, writesO]
    simp only [Option.map_some, List.append_nil]

theorem textsF_sizes {B : ByteArray} : ∀ (n st : Nat) (l : List ByteArray) (q : Nat), textsF n B st = some (l, q) → ∀ k (h : k < l.length), l[k].size ≤ 60
  | 0, st, l, q, h => by
    injection h with h
    injection h with h1 h2
    subst h1
    intro k hk; simp at hk
  | n + 1, st, l, q, h => by
    cases ht : textOf B st with
    | none => rw [textsF_stop ht] at h; cases h
    | some sp =>
      obtain ⟨s, p⟩ := sp
      rw [textsF_step ht] at h
      obtain ⟨_, hs⟩ := textOf_end ht
      cases hf : textsF n B p with
      | none => rw [hf] at h; cases h
      | some r =>
        obtain ⟨l', q'⟩ := r
        rw [hf] at h
        injection h with h
        injection h with h1 h2
        subst h1
        intro k hk
        cases k with
        | zero => exact hs
        | succ k => exact textsF_sizes n p l' q' hf k (by simpa using hk)
theorem textsO_end {B : ByteArray} {st : Nat} {o' : Option Nat} {l : List ByteArray} (g : Got (textsO B (some st)) l o') (h : o' ≠ none) : ∀ k (h : k < l.length), l[k].size ≤ 60 := by
  obtain ⟨q, rfl⟩ := Option.ne_none_iff_exists'.1 h
  have g' : textsOf B st = some (l, q) := g
  unfold textsOf at g'
  cases hn : numOf (B.data.toList.drop st) with
  | none => rw [hn] at g'; cases g'
  | some n =>
    rw [hn] at g'
    by_cases h4 : n ≤ 40
    · simp only [h4, decide_true, cond_true] at g'
      exact textsF_sizes n _ l q g'
    · simp only [h4, decide_false, cond_false] at g'
      cases g'
theorem textsO_len {B : ByteArray} {st : Nat} {o' : Option Nat} {l : List ByteArray} (g : Got (textsO B (some st)) l o') (h : o' ≠ none) : l.length ≤ 40 := by
  obtain ⟨q, rfl⟩ := Option.ne_none_iff_exists'.1 h
  exact textsOf_length (show textsOf B st = some (l, q) from g)

def zeroRec : RecD := ⟨0, 0, 0, 0, [], [], false⟩
noncomputable def recBB (x : RecD) : ByteArray := sealB (wrsB (headB x.Kind.toNat x.Txn.toNat x.Time.toNat x.Lead.toNat x.Yes x.Reads x.Writes.length) x.Writes)
/-- What ReadRec returns. -/
noncomputable def readRecR (s : ByteArray) : RecD × Bool :=
  bif (openR s).2 then
    match recO (openR s).1 with
    | some (x, _) => bif goodRB x && decide (recBB x = s) then (x, true) else (zeroRec, false)
    | none => (zeroRec, false)
  else (zeroRec, false)
theorem readRecR_closed {s : ByteArray} (h : (openR s).2 = false) : readRecR s = (zeroRec, false) := by unfold readRecR; rw [h]; rfl
theorem readRecR_none {s : ByteArray} (h : (openR s).2 = true) (k : recO (openR s).1 = none) : readRecR s = (zeroRec, false) := by unfold readRecR; rw [h, k]; rfl
theorem readRecR_bad {s : ByteArray} {x : RecD} {n : Nat} (h : (openR s).2 = true) (k : recO (openR s).1 = some (x, n)) (hb : (goodRB x && decide (recBB x = s)) = false) : readRecR s = (zeroRec, false) := by
  unfold readRecR; rw [h, k]; simp only [hb, cond_true, cond_false]
theorem readRecR_good {s : ByteArray} {x : RecD} {n : Nat} (h : (openR s).2 = true) (k : recO (openR s).1 = some (x, n)) (hb : (goodRB x && decide (recBB x = s)) = true) : readRecR s = (x, true) := by
  unfold readRecR; rw [h, k]; simp only [hb, cond_true]

end Go.Proofs.Ytbkhooklieangaa
