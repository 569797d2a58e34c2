/- Plain lemmas and contracts that all proofs of this seat lean on: bundle Newg. -/
import Derived.Test.YtfaefjdlfjhniaaRowd
import Derived.Outline
import Derived.Laws.IdiomCopy
import Derived.Deep.RegionLaw
import Derived.Test.YtfaefjdlfjhniaaPutb
import Derived.Test.YtfaefjdlfjhniaaGcopy
import Derived.Test.YtfaefjdlfjhniaaLogg
import Derived.Test.YtfaefjdlfjhniaaHeld
import Derived.Test.YtfaefjdlfjhniaaSafeb
/- slices.Repeat of one element of several cells: plain lemmas on copies. Printed by mkrep.py. -/
namespace Go.Proofs.Ytfaefjdlfjhniaa
open Go.RowKit

section
variable {P : Program}

/-- A copy of elements of several cells: all is read before anything is written. -/
theorem run_copy_wide (w : World) (dT sT ty elem : TypeId) (b o dLen dCap : Nat) (a : Addr) (sLen sCap s m : Nat) (cs : List Value)
    (hu : P.underlying dT = some (.slice elem)) (hs : (P.info? elem).map (·.size) = some s) (hm : Nat.min sLen dLen = m) (hn : cs.length = m * s)
    (hsrc : ∀ j v, cs[j]? = some v → w.cell? (a.add j) = some v) (hc : ∀ j, j < cs.length → (w.cell? ⟨b, o + j, none⟩).isSome = true) (hf : ∀ j, j < cs.length → w.frozen? ⟨b, o + j, none⟩ = false) (h1 : ∀ v ∈ cs, v.oneCell' = true) :
    (Builtin.copy_ #[dT, sT] ty #[.slice (some ⟨b, o, none⟩) dLen dCap, .slice (some a) sLen sCap]).run P w = .ok (goInt m) (w.setCells b o cs) := by
  have hl := run_loadCells_list (P := P) w a cs hsrc
  have hst := run_storeCells_cells (P := P) b o cs 0 w (by simpa using hc) (by simpa using hf) h1
  cases hq : P.info? elem with
  | none => simp [hq] at hs
  | some i =>
    have hi : i.size = s := by simpa [hq] using hs
    simp [Builtin.copy_, run_underlying hu, Builtin.lenOf, Builtin.firstCells, sizeOf, typeInfo, hq, hi, hm, ← hn, hl, hst]

theorem step_copy_wide {ops : Array Oper} {o : Oper} {a : Act} {w : World} {K : Act → World → Prop} {Q : Exit → Act → World → Prop} {E : Prop} (hgd : o.guard = none) (d s : Operand) (dT sT : TypeId)
    (ho : o.op = .call { callee := .builtin .copy, args := #[d, s], argTypes := #[dT, sT] }) (elem : TypeId) (sz : Nat) (hu : P.underlying dT = some (.slice elem)) (hsz : (P.info? elem).map (·.size) = some sz)
    (b off dLen dCap : Nat) (ad : Addr) (sLen sCap m : Nat) (hd : a.eval d = .slice (some ⟨b, off, none⟩) dLen dCap) (hs : a.eval s = .slice (some ad) sLen sCap)
    (cs : List Value) (hm : Nat.min sLen dLen = m) (hn : cs.length = m * sz)
    (hsrc : ∀ j v, cs[j]? = some v → w.cell? (ad.add j) = some v) (hc : ∀ j, j < cs.length → (w.cell? ⟨b, off + j, none⟩).isSome = true) (hf : ∀ j, j < cs.length → w.frozen? ⟨b, off + j, none⟩ = false) (h1 : ∀ v ∈ cs, v.oneCell' = true)
    (h : K (a.put o.dst (goInt m)) (w.setCells b off cs)) : if Region.wanted o (yielded ops a.tmps) = true then Oper.wp P o a w K Q else E := by
  have hw : Region.wanted o (yielded ops a.tmps) = true := by simp [Region.wanted, hgd]
  rw [if_pos hw]
  have hrun := run_copy_wide (P := P) w dT sT o.type elem b off dLen dCap ad sLen sCap sz m cs hu hsz hm hn hsrc hc hf h1
  unfold Oper.wp
  simp [execOp, ho, resolve, invoke, builtin, hd, hs, hrun, Result.andThen]
  exact h

theorem wpList_copy_wide {w : World} {ops : Array Oper} {rest : List Oper} {o : Oper} {a : Act} {Q : Exit → Act → World → Prop} (hgd : o.guard = none) (d s : Operand) (dT sT : TypeId)
    (ho : o.op = .call { callee := .builtin .copy, args := #[d, s], argTypes := #[dT, sT] }) (elem : TypeId) (sz : Nat) (hu : P.underlying dT = some (.slice elem)) (hsz : (P.info? elem).map (·.size) = some sz)
    (b off dLen dCap : Nat) (ad : Addr) (sLen sCap m : Nat) (hd : a.eval d = .slice (some ⟨b, off, none⟩) dLen dCap) (hs : a.eval s = .slice (some ad) sLen sCap)
    (cs : List Value) (hm : Nat.min sLen dLen = m) (hn : cs.length = m * sz)
    (hsrc : ∀ j v, cs[j]? = some v → w.cell? (ad.add j) = some v) (hc : ∀ j, j < cs.length → (w.cell? ⟨b, off + j, none⟩).isSome = true) (hf : ∀ j, j < cs.length → w.frozen? ⟨b, off + j, none⟩ = false) (h1 : ∀ v ∈ cs, v.oneCell' = true)
    (h : wpList P ops Q rest (a.put o.dst (goInt m)) (w.setCells b off cs)) : wpList P ops Q (o :: rest) a w := by
  refine wpList_plain hgd fun K hK' => ?_
  have hrun := run_copy_wide (P := P) w dT sT o.type elem b off dLen dCap ad sLen sCap sz m cs hu hsz hm hn hsrc hc hf h1
  unfold Oper.wp
  simp [execOp, ho, resolve, invoke, builtin, hd, hs, hrun, Result.andThen]
  exact hK' _ _ h
end

set_option maxRecDepth 100000 in
theorem mul64_3 (w : World) : Calls Try.prog 72 #[.int .u64 1, .int .u64 3] w fun e w' => e = .returned (.tuple #[.int .u64 0, .int .u64 3]) ∧ w = w' := by
  go_enter Try.func72, Try.ntmps72
  go_wp2
  go_ret2
  exact ⟨rfl, rfl⟩
set_option maxRecDepth 100000 in
theorem mul64_5 (w : World) : Calls Try.prog 72 #[.int .u64 1, .int .u64 5] w fun e w' => e = .returned (.tuple #[.int .u64 0, .int .u64 5]) ∧ w = w' := by
  go_enter Try.func72, Try.ntmps72
  go_wp2
  go_ret2
  exact ⟨rfl, rfl⟩
set_option maxRecDepth 100000 in
theorem mul_3 (w : World) : Calls Try.prog 49 #[.int .u64 1, .int .u64 3] w fun e w' => e = .returned (.tuple #[.int .u64 0, .int .u64 3]) ∧ w = w' := by
  go_enter Try.func49, Try.ntmps49
  go_wp2_with fail
  refine (mul64_3 _).mono ?_
  rintro e w1 ⟨rfl, rfl⟩
  go_wp2
  go_ret2
  exact ⟨rfl, rfl⟩
set_option maxRecDepth 100000 in
theorem mul_5 (w : World) : Calls Try.prog 49 #[.int .u64 1, .int .u64 5] w fun e w' => e = .returned (.tuple #[.int .u64 0, .int .u64 5]) ∧ w = w' := by
  go_enter Try.func49, Try.ntmps49
  go_wp2_with fail
  refine (mul64_5 _).mono ?_
  rintro e w1 ⟨rfl, rfl⟩
  go_wp2
  go_ret2
  exact ⟨rfl, rfl⟩

end Go.Proofs.Ytfaefjdlfjhniaa


/- A row that is being filled with copies of one element (slices.Repeat). Plain lemmas over any program. -/
namespace Go.Proofs.Ytfaefjdlfjhniaa
open Go.RowKit

/-- So many copies. -/
def reps (pat : List Value) : Nat → List Value
  | 0 => []
  | c + 1 => pat ++ reps pat c

theorem reps_length (pat : List Value) : ∀ c, (reps pat c).length = c * pat.length
  | 0 => by simp [reps]
  | c + 1 => by rw [reps, List.length_append, reps_length pat c, Nat.add_mul, Nat.one_mul, Nat.add_comm]

theorem reps_get (pat : List Value) : ∀ (c j : Nat), j < c * pat.length → (reps pat c)[j]? = pat[j % pat.length]?
  | 0, j, h => by simp at h
  | c + 1, j, h => by
    rw [reps]
    by_cases hj : j < pat.length
    · rw [List.getElem?_append_left hj, Nat.mod_eq_of_lt hj]
    · rw [Nat.add_mul] at h
      rw [List.getElem?_append_right (by omega), reps_get pat c _ (by omega), ← Nat.mod_eq_sub_mod (by omega)]

theorem reps_mem {pat : List Value} {v : Value} : ∀ {c : Nat}, v ∈ reps pat c → v ∈ pat
  | 0, h => by cases h
  | c + 1, h => by
    rcases List.mem_append.1 h with h | h
    · exact h
    · exact reps_mem h

/-- The first k elements are there. -/
structure Fill (w : World) (e : TypeId) (pat : List Value) (n k : Nat) (wr : World) : Prop where
  below : Below w.heap.size w wr
  row : ∃ cur, wr.heap[w.heap.size]? = some (.cells cur e (0, 0)) ∧ cur.size = n * pat.length ∧ ∀ j, j < k * pat.length → cur[j]? = pat[j % pat.length]?

variable {w wr : World} {e : TypeId} {pat : List Value} {n k : Nat}

theorem fill_start {cells : Array Value} (h : cells.size = n * pat.length) : Fill w e pat n 0 (w.alloc (.cells cells e)) :=
  ⟨below_new _ _, cells, by show (w.heap.push _)[w.heap.size]? = _; simp, h, fun j hj => by simp at hj⟩

theorem Fill.drew (h : Fill w e pat n k wr) : Fill w e pat n k wr.drew := ⟨h.below.drew, h.row⟩

theorem Fill.lt (h : Fill w e pat n k wr) : w.heap.size < wr.heap.size := by
  obtain ⟨_, cur, h1, _⟩ := h
  exact (Array.getElem?_eq_some_iff.1 h1).1

theorem Fill.src (h : Fill w e pat n k wr) {c : Nat} (hc : c ≤ k) : ∀ j v, (reps pat c)[j]? = some v → wr.cell? ((⟨w.heap.size, 0, none⟩ : Addr).add j) = some v := by
  obtain ⟨_, cur, h1, h2, h3⟩ := h
  intro j v hj
  have hl : j < c * pat.length := by rw [← reps_length]; exact (List.getElem?_eq_some_iff.1 hj).1
  have hk : c * pat.length ≤ k * pat.length := Nat.mul_le_mul_right _ hc
  rw [WideShapes.add_plain, Nat.zero_add]
  rw [reps_get pat c j hl] at hj
  simp [World.cell?, h1, h3 j (by omega), hj]

theorem Fill.is (h : Fill w e pat n k wr) {c off : Nat} (ho : off = k * pat.length) (hc : k + c ≤ n) : ∀ j, j < (reps pat c).length → (wr.cell? ⟨w.heap.size, off + j, none⟩).isSome = true := by
  obtain ⟨_, cur, h1, h2, h3⟩ := h
  intro j hj
  rw [reps_length] at hj
  have hk : (k + c) * pat.length ≤ n * pat.length := Nat.mul_le_mul_right _ hc
  rw [Nat.add_mul] at hk
  have : off + j < cur.size := by omega
  simp [World.cell?, h1, this]

theorem Fill.thawed (h : Fill w e pat n k wr) (i : Nat) : wr.frozen? ⟨w.heap.size, i, none⟩ = false := by
  obtain ⟨_, cur, h1, h2, h3⟩ := h
  simp [World.frozen?, h1]

theorem Fill.next (h : Fill w e pat n k wr) {c off : Nat} (ho : off = k * pat.length) (hc : k + c ≤ n) : Fill w e pat n (k + c) (wr.setCells w.heap.size off (reps pat c)) := by
  have his := h.is ho hc
  obtain ⟨hb, cur, h1, h2, h3⟩ := h
  obtain ⟨cur', q1, q2⟩ := heap_setCells_same w.heap.size e (0, 0) (reps pat c) off wr cur h1
  refine ⟨below_setCells (Nat.le_refl _) _ _ _ hb, cur', q1, by rw [q2, h2], fun j hj => ?_⟩
  have hcell : ∀ j, (wr.setCells w.heap.size off (reps pat c)).cell? ⟨w.heap.size, j, none⟩ = cur'[j]? := fun j => by simp [World.cell?, q1]
  have hold : ∀ j, wr.cell? ⟨w.heap.size, j, none⟩ = cur[j]? := fun j => by simp [World.cell?, h1]
  rw [← hcell]
  rw [Nat.add_mul] at hj
  by_cases hjk : j < off
  · rw [World.cell?_setCells_out w.heap.size (reps pat c) _ _ _ (fun _ _ => Or.inl (by simp; omega)), hold]
    exact h3 j (by omega)
  · obtain ⟨i, rfl⟩ : ∃ i, j = off + i := ⟨j - off, by omega⟩
    have hi : i < c * pat.length := by omega
    rw [World.cell?_setCells_in w.heap.size (reps pat c) _ _ his i (by rw [reps_length]; exact hi), ← List.getElem?_eq_getElem, reps_get pat c i hi, ho, Nat.mul_comm k, Nat.mul_add_mod]

theorem Fill.own {α : Type} {c : Cod α} {x : α} (h : Fill w e pat n n wr) (hs : c.size = pat.length) (hn : n ≤ maxLen) (hx : ∀ W, c.rd W (lst pat) x []) : Own c wr w.heap.size (.slice (some ⟨w.heap.size, 0, none⟩) n n) (List.replicate n x) := by
  have hz := h.lt
  have ht := h.thawed
  obtain ⟨_, cur, h1, h2, h3⟩ := h
  have hcell : ∀ j, wr.cell? ⟨w.heap.size, j, none⟩ = cur[j]? := fun j => by simp [World.cell?, h1]
  refine ⟨w.heap.size :: (List.replicate n ([] : List Nat)).flatten, ⟨some ⟨w.heap.size, 0, none⟩, n, by simp, by simp, hn, (fun h => by cases h), Or.inr ⟨w.heap.size, 0, List.replicate n [], rfl, rfl, hz, Cod.elems_of c (by simp) fun k hk f hf => ?_⟩⟩, ?_⟩
  · have hkn : k < n := by simpa using hk
    have hf0 : f = [] := by simp [hkn] at hf; exact hf
    subst hf0
    rw [List.getElem_replicate]
    refine c.ext (fun i hi => ?_) (hx wr)
    show pat[i]? = wr.cell? ⟨w.heap.size, 0 + k * c.size + i, none⟩
    have hlt : k * pat.length + i < n * pat.length := by rw [← hs]; exact idx_lt hkn hi
    rw [Nat.zero_add, hcell, hs, h3 _ hlt, Nat.mul_comm k, Nat.mul_add_mod, Nat.mod_eq_of_lt (by rw [← hs]; exact hi)]
  · refine ⟨by simp, fun b hb => ?_, fun b hb i => ?_⟩
    · have : b = w.heap.size := by simpa using hb
      omega
    · have : b = w.heap.size := by simpa using hb
      subst this
      exact ht i

end Go.Proofs.Ytfaefjdlfjhniaa


/- slices.Repeat at Replica. Printed by mkrep.py. -/
namespace Go.Proofs.Ytfaefjdlfjhniaa
open Go.RowKit


set_option maxRecDepth 100000 in
set_option maxHeartbeats 6400000 in
theorem repeatReplica_3 (w : World) (B : Nat) (c0 : w.cell? ⟨B, 0, none⟩ = some (.bool true)) (c1 : w.cell? ⟨B, 1, none⟩ = some (.slice none 0 0)) (c2 : w.cell? ⟨B, 2, none⟩ = some (.int .i64 0)) :
    Calls Try.prog 25 #[.slice (some ⟨B, 0, none⟩) 1 1, .int .i64 3] w fun e w' => e = .returned (.slice (some ⟨w.heap.size, 0, none⟩) 3 3) ∧ Fill w 50 [.bool true, .slice none 0 0, .int .i64 0] 3 3 w' := by
  have hb : B < w.heap.size := World.block_lt_of_cell? _ _ c0
  have hmk : ∀ w : World, (Instr.makeSlice 25 (.int .i64 3) (.int .i64 3)).run Try.prog w = .ok (.slice (some ⟨w.heap.size, 0, none⟩) 3 3) (w.alloc (.cells #[.bool false, .slice none 0 0, .int .i64 0, .bool false, .slice none 0 0, .int .i64 0, .bool false, .slice none 0 0, .int .i64 0] 50)) := fun _ => by kernel_rfl
  have F0 : Fill w 50 [.bool true, .slice none 0 0, .int .i64 0] 3 0 (w.alloc (.cells #[.bool false, .slice none 0 0, .int .i64 0, .bool false, .slice none 0 0, .int .i64 0, .bool false, .slice none 0 0, .int .i64 0] 50)) := fill_start (by rfl)
  have F1 := Lib.hid (F0.next (c := 1) (off := 0) (by simp) (by decide))
  have hsrc : ∀ j v, [.bool true, .slice none 0 0, .int .i64 0][j]? = some v → (w.alloc (.cells #[.bool false, .slice none 0 0, .int .i64 0, .bool false, .slice none 0 0, .int .i64 0, .bool false, .slice none 0 0, .int .i64 0] 50)).cell? ((⟨B, 0, none⟩ : Addr).add j) = some v := by
    intro j v hj
    rw [WideShapes.add_plain, Nat.zero_add, cell_alloc_old hb]
    match j, hj with
    | 0, hj => exact c0.trans hj
    | 1, hj => exact c1.trans hj
    | 2, hj => exact c2.trans hj
  have his := F0.is (c := 1) (off := 0) (by simp) (by decide)
  have hfz := F0.thawed
  clear F0
  go_enter Try.func25, Try.ntmps25
  go_wp2_with fail
  refine (mul_3 _).mono ?_
  rintro e w1 ⟨rfl, rfl⟩
  go_wp2_with (refine wpList_copy_wide (o := ⟨some 33, _, _, _, _, _⟩) rfl (.tmp 31) (.tmp 32) 25 25 rfl 50 3 Try.underlying25 (by kernel_rfl) w.heap.size 0 3 3 ⟨B, 0, none⟩ 1 1 1 (by rfl) (by rfl) [.bool true, .slice none 0 0, .int .i64 0] (by rfl) (by rfl) hsrc his (fun j _ => hfz _) (by simp [Value.oneCell']) ?_)
  obtain ⟨w2, h2⟩ : ∃ w2, (w.alloc (.cells #[.bool false, .slice none 0 0, .int .i64 0, .bool false, .slice none 0 0, .int .i64 0, .bool false, .slice none 0 0, .int .i64 0] 50)).setCells w.heap.size 0 [.bool true, .slice none 0 0, .int .i64 0] = w2 := ⟨_, rfl⟩
  have F2 : Fill w 50 [.bool true, .slice none 0 0, .int .i64 0] 3 1 w2 := h2 ▸ F1.out
  rw [h2]
  clear hmk hsrc his hfz F1 h2
  have W2 : IntKind.i64.wrap 2 = 2 := by decide
  have W3 : IntKind.i64.wrap 3 = 3 := by decide
  go_wp2
  go_loopw [8] (fun v wr => (v = .int .i64 1 ∧ Fill w 50 [.bool true, .slice none 0 0, .int .i64 0] 3 1 wr) ∨ (v = .int .i64 2 ∧ Fill w 50 [.bool true, .slice none 0 0, .int .i64 0] 3 2 wr) ∨ (v = .int .i64 3 ∧ Fill w 50 [.bool true, .slice none 0 0, .int .i64 0] 3 3 wr)) (fun v _ => 3 - (intOf v).toNat)
  case atStart => exact Or.inl ⟨rfl, F2⟩
  case round =>
    clear F2
    rcases hrel with ⟨rfl, F⟩ | ⟨rfl, F⟩ | ⟨rfl, F⟩
    · have Fd := F.drew
      have G := Fd.next (c := 1) (off := 3) (by rfl) (by decide)
      have hsrc := Fd.src (c := 1) (by decide)
      have his := Fd.is (c := 1) (off := 3) (by rfl) (by decide)
      have hfz := Fd.thawed
      obtain ⟨cs, hcs⟩ : ∃ cs, reps [.bool true, .slice none 0 0, .int .i64 0] 1 = cs := ⟨_, rfl⟩
      have hcl : cs.length = 1 * 3 := by rw [← hcs, reps_length]; rfl
      have h1 : ∀ u ∈ cs, u.oneCell' = true := fun u hu => by rw [← hcs] at hu; have hu := reps_mem hu; simp at hu; rcases hu with rfl | rfl | rfl <;> rfl
      rw [hcs] at G hsrc his
      clear hcs Fd
      go_wp2
      go_region_law ((refine step_copy_wide (o := ⟨some 45, _, _, _, _, _⟩) rfl (.tmp 41) (.tmp 44) 25 25 rfl 50 3 Try.underlying25 (by kernel_rfl) w.heap.size 3 2 2 ⟨w.heap.size, 0, none⟩ 1 3 1 (by simp [Act.eval, Act.put]) (by simp [Act.eval, Act.put]) cs (by rfl) hcl hsrc his (fun j _ => hfz _) h1 ?_))
      obtain ⟨w3, h3⟩ : ∃ w3, wr.drew.setCells w.heap.size 3 cs = w3 := ⟨_, rfl⟩
      rw [h3] at G ⊢
      clear h3 hsrc his hfz h1 hcl F
      go_simp
      try go_wp2
      go_roundw
      case rel => exact Or.inr (Or.inl ⟨rfl, G⟩)
      case measure => simp [intOf]
    · have Fd := F.drew
      have G := Fd.next (c := 1) (off := 6) (by rfl) (by decide)
      have hsrc := Fd.src (c := 1) (by decide)
      have his := Fd.is (c := 1) (off := 6) (by rfl) (by decide)
      have hfz := Fd.thawed
      obtain ⟨cs, hcs⟩ : ∃ cs, reps [.bool true, .slice none 0 0, .int .i64 0] 1 = cs := ⟨_, rfl⟩
      have hcl : cs.length = 1 * 3 := by rw [← hcs, reps_length]; rfl
      have h1 : ∀ u ∈ cs, u.oneCell' = true := fun u hu => by rw [← hcs] at hu; have hu := reps_mem hu; simp at hu; rcases hu with rfl | rfl | rfl <;> rfl
      rw [hcs] at G hsrc his
      clear hcs Fd
      go_wp2
      go_region_law ((refine step_copy_wide (o := ⟨some 45, _, _, _, _, _⟩) rfl (.tmp 41) (.tmp 44) 25 25 rfl 50 3 Try.underlying25 (by kernel_rfl) w.heap.size 6 1 1 ⟨w.heap.size, 0, none⟩ 2 3 1 (by simp [Act.eval, Act.put]) (by simp [Act.eval, Act.put]) cs (by rfl) hcl hsrc his (fun j _ => hfz _) h1 ?_))
      obtain ⟨w3, h3⟩ : ∃ w3, wr.drew.setCells w.heap.size 6 cs = w3 := ⟨_, rfl⟩
      rw [h3] at G ⊢
      clear h3 hsrc his hfz h1 hcl F
      go_simp
      try go_wp2
      go_roundw
      case rel => exact Or.inr (Or.inr (⟨rfl, G⟩))
      case measure => simp [intOf]
    · go_wp2
      go_ret
      exact ⟨rfl, F⟩

set_option maxRecDepth 100000 in
set_option maxHeartbeats 6400000 in
theorem repeatReplica_5 (w : World) (B : Nat) (c0 : w.cell? ⟨B, 0, none⟩ = some (.bool true)) (c1 : w.cell? ⟨B, 1, none⟩ = some (.slice none 0 0)) (c2 : w.cell? ⟨B, 2, none⟩ = some (.int .i64 0)) :
    Calls Try.prog 25 #[.slice (some ⟨B, 0, none⟩) 1 1, .int .i64 5] w fun e w' => e = .returned (.slice (some ⟨w.heap.size, 0, none⟩) 5 5) ∧ Fill w 50 [.bool true, .slice none 0 0, .int .i64 0] 5 5 w' := by
  have hb : B < w.heap.size := World.block_lt_of_cell? _ _ c0
  have hmk : ∀ w : World, (Instr.makeSlice 25 (.int .i64 5) (.int .i64 5)).run Try.prog w = .ok (.slice (some ⟨w.heap.size, 0, none⟩) 5 5) (w.alloc (.cells #[.bool false, .slice none 0 0, .int .i64 0, .bool false, .slice none 0 0, .int .i64 0, .bool false, .slice none 0 0, .int .i64 0, .bool false, .slice none 0 0, .int .i64 0, .bool false, .slice none 0 0, .int .i64 0] 50)) := fun _ => by kernel_rfl
  have F0 : Fill w 50 [.bool true, .slice none 0 0, .int .i64 0] 5 0 (w.alloc (.cells #[.bool false, .slice none 0 0, .int .i64 0, .bool false, .slice none 0 0, .int .i64 0, .bool false, .slice none 0 0, .int .i64 0, .bool false, .slice none 0 0, .int .i64 0, .bool false, .slice none 0 0, .int .i64 0] 50)) := fill_start (by rfl)
  have F1 := Lib.hid (F0.next (c := 1) (off := 0) (by simp) (by decide))
  have hsrc : ∀ j v, [.bool true, .slice none 0 0, .int .i64 0][j]? = some v → (w.alloc (.cells #[.bool false, .slice none 0 0, .int .i64 0, .bool false, .slice none 0 0, .int .i64 0, .bool false, .slice none 0 0, .int .i64 0, .bool false, .slice none 0 0, .int .i64 0, .bool false, .slice none 0 0, .int .i64 0] 50)).cell? ((⟨B, 0, none⟩ : Addr).add j) = some v := by
    intro j v hj
    rw [WideShapes.add_plain, Nat.zero_add, cell_alloc_old hb]
    match j, hj with
    | 0, hj => exact c0.trans hj
    | 1, hj => exact c1.trans hj
    | 2, hj => exact c2.trans hj
  have his := F0.is (c := 1) (off := 0) (by simp) (by decide)
  have hfz := F0.thawed
  clear F0
  go_enter Try.func25, Try.ntmps25
  go_wp2_with fail
  refine (mul_5 _).mono ?_
  rintro e w1 ⟨rfl, rfl⟩
  go_wp2_with (refine wpList_copy_wide (o := ⟨some 33, _, _, _, _, _⟩) rfl (.tmp 31) (.tmp 32) 25 25 rfl 50 3 Try.underlying25 (by kernel_rfl) w.heap.size 0 5 5 ⟨B, 0, none⟩ 1 1 1 (by rfl) (by rfl) [.bool true, .slice none 0 0, .int .i64 0] (by rfl) (by rfl) hsrc his (fun j _ => hfz _) (by simp [Value.oneCell']) ?_)
  obtain ⟨w2, h2⟩ : ∃ w2, (w.alloc (.cells #[.bool false, .slice none 0 0, .int .i64 0, .bool false, .slice none 0 0, .int .i64 0, .bool false, .slice none 0 0, .int .i64 0, .bool false, .slice none 0 0, .int .i64 0, .bool false, .slice none 0 0, .int .i64 0] 50)).setCells w.heap.size 0 [.bool true, .slice none 0 0, .int .i64 0] = w2 := ⟨_, rfl⟩
  have F2 : Fill w 50 [.bool true, .slice none 0 0, .int .i64 0] 5 1 w2 := h2 ▸ F1.out
  rw [h2]
  clear hmk hsrc his hfz F1 h2
  have W2 : IntKind.i64.wrap 2 = 2 := by decide
  have W4 : IntKind.i64.wrap 4 = 4 := by decide
  have W5 : IntKind.i64.wrap 5 = 5 := by decide
  go_wp2
  go_loopw [8] (fun v wr => (v = .int .i64 1 ∧ Fill w 50 [.bool true, .slice none 0 0, .int .i64 0] 5 1 wr) ∨ (v = .int .i64 2 ∧ Fill w 50 [.bool true, .slice none 0 0, .int .i64 0] 5 2 wr) ∨ (v = .int .i64 4 ∧ Fill w 50 [.bool true, .slice none 0 0, .int .i64 0] 5 4 wr) ∨ (v = .int .i64 5 ∧ Fill w 50 [.bool true, .slice none 0 0, .int .i64 0] 5 5 wr)) (fun v _ => 5 - (intOf v).toNat)
  case atStart => exact Or.inl ⟨rfl, F2⟩
  case round =>
    clear F2
    rcases hrel with ⟨rfl, F⟩ | ⟨rfl, F⟩ | ⟨rfl, F⟩ | ⟨rfl, F⟩
    · have Fd := F.drew
      have G := Fd.next (c := 1) (off := 3) (by rfl) (by decide)
      have hsrc := Fd.src (c := 1) (by decide)
      have his := Fd.is (c := 1) (off := 3) (by rfl) (by decide)
      have hfz := Fd.thawed
      obtain ⟨cs, hcs⟩ : ∃ cs, reps [.bool true, .slice none 0 0, .int .i64 0] 1 = cs := ⟨_, rfl⟩
      have hcl : cs.length = 1 * 3 := by rw [← hcs, reps_length]; rfl
      have h1 : ∀ u ∈ cs, u.oneCell' = true := fun u hu => by rw [← hcs] at hu; have hu := reps_mem hu; simp at hu; rcases hu with rfl | rfl | rfl <;> rfl
      rw [hcs] at G hsrc his
      clear hcs Fd
      go_wp2
      go_region_law ((refine step_copy_wide (o := ⟨some 45, _, _, _, _, _⟩) rfl (.tmp 41) (.tmp 44) 25 25 rfl 50 3 Try.underlying25 (by kernel_rfl) w.heap.size 3 4 4 ⟨w.heap.size, 0, none⟩ 1 5 1 (by simp [Act.eval, Act.put]) (by simp [Act.eval, Act.put]) cs (by rfl) hcl hsrc his (fun j _ => hfz _) h1 ?_))
      obtain ⟨w3, h3⟩ : ∃ w3, wr.drew.setCells w.heap.size 3 cs = w3 := ⟨_, rfl⟩
      rw [h3] at G ⊢
      clear h3 hsrc his hfz h1 hcl F
      go_simp
      try go_wp2
      go_roundw
      case rel => exact Or.inr (Or.inl ⟨rfl, G⟩)
      case measure => simp [intOf]
    · have Fd := F.drew
      have G := Fd.next (c := 2) (off := 6) (by rfl) (by decide)
      have hsrc := Fd.src (c := 2) (by decide)
      have his := Fd.is (c := 2) (off := 6) (by rfl) (by decide)
      have hfz := Fd.thawed
      obtain ⟨cs, hcs⟩ : ∃ cs, reps [.bool true, .slice none 0 0, .int .i64 0] 2 = cs := ⟨_, rfl⟩
      have hcl : cs.length = 2 * 3 := by rw [← hcs, reps_length]; rfl
      have h1 : ∀ u ∈ cs, u.oneCell' = true := fun u hu => by rw [← hcs] at hu; have hu := reps_mem hu; simp at hu; rcases hu with rfl | rfl | rfl <;> rfl
      rw [hcs] at G hsrc his
      clear hcs Fd
      go_wp2
      go_region_law ((refine step_copy_wide (o := ⟨some 45, _, _, _, _, _⟩) rfl (.tmp 41) (.tmp 44) 25 25 rfl 50 3 Try.underlying25 (by kernel_rfl) w.heap.size 6 3 3 ⟨w.heap.size, 0, none⟩ 2 5 2 (by simp [Act.eval, Act.put]) (by simp [Act.eval, Act.put]) cs (by rfl) hcl hsrc his (fun j _ => hfz _) h1 ?_))
      obtain ⟨w3, h3⟩ : ∃ w3, wr.drew.setCells w.heap.size 6 cs = w3 := ⟨_, rfl⟩
      rw [h3] at G ⊢
      clear h3 hsrc his hfz h1 hcl F
      go_simp
      try go_wp2
      go_roundw
      case rel => exact Or.inr (Or.inr (Or.inl ⟨rfl, G⟩))
      case measure => simp [intOf]
    · have Fd := F.drew
      have G := Fd.next (c := 1) (off := 12) (by rfl) (by decide)
      have hsrc := Fd.src (c := 1) (by decide)
      have his := Fd.is (c := 1) (off := 12) (by rfl) (by decide)
      have hfz := Fd.thawed
      obtain ⟨cs, hcs⟩ : ∃ cs, reps [.bool true, .slice none 0 0, .int .i64 0] 1 = cs := ⟨_, rfl⟩
      have hcl : cs.length = 1 * 3 := by rw [← hcs, reps_length]; rfl
      have h1 : ∀ u ∈ cs, u.oneCell' = true := fun u hu => by rw [← hcs] at hu; have hu := reps_mem hu; simp at hu; rcases hu with rfl | rfl | rfl <;> rfl
      rw [hcs] at G hsrc his
      clear hcs Fd
      go_wp2
      go_region_law ((refine step_copy_wide (o := ⟨some 45, _, _, _, _, _⟩) rfl (.tmp 41) (.tmp 44) 25 25 rfl 50 3 Try.underlying25 (by kernel_rfl) w.heap.size 12 1 1 ⟨w.heap.size, 0, none⟩ 4 5 1 (by simp [Act.eval, Act.put]) (by simp [Act.eval, Act.put]) cs (by rfl) hcl hsrc his (fun j _ => hfz _) h1 ?_))
      obtain ⟨w3, h3⟩ : ∃ w3, wr.drew.setCells w.heap.size 12 cs = w3 := ⟨_, rfl⟩
      rw [h3] at G ⊢
      clear h3 hsrc his hfz h1 hcl F
      go_simp
      try go_wp2
      go_roundw
      case rel => exact Or.inr (Or.inr (Or.inr (⟨rfl, G⟩)))
      case measure => simp [intOf]
    · go_wp2
      go_ret
      exact ⟨rfl, F⟩

end Go.Proofs.Ytfaefjdlfjhniaa


/- NewGroup, both. -/
namespace Go.Proofs.Ytfaefjdlfjhniaa
open Go.RowKit

/-- Whether a group may have so many. -/
def manyI (r : Int) : Bool := (r == 3) || (r == 5)
/-- A group without entries. -/
def newG (r : Int) : GroupD := ⟨List.replicate r.toNat ⟨true, [], 0⟩, 0, -1⟩

set_option maxRecDepth 100000 in
/-- impl.isMany -/
theorem isMany_int (r : Int) (w : World) : Calls Try.prog 24 #[.int .i64 r] w fun e w' => e = .returned (.bool (manyI r)) ∧ w = w' := by
  unfold manyI
  generalize h3 : (r == 3) = b3
  generalize h5 : (r == 5) = b5
  cases b3 <;> cases b5
  all_goals
    go_enter Try.func24, Try.ntmps24
    go_wp2
    go_ret
    exact ⟨by simp, rfl⟩

theorem rep_rd0 (W : World) : Cod.replica.rd W (lst [.bool true, .slice none 0 0, .int .i64 0]) ⟨true, [], 0⟩ [] :=
  ⟨[], [], rfl, ⟨rfl, trivial, rfl⟩, [], [], rfl, ⟨.slice none 0 0, rfl, ⟨none, 0, rfl, Nat.le_refl _, Nat.zero_le _, fun _ => rfl, Or.inl ⟨rfl, rfl⟩⟩⟩, ⟨rfl, by decide, rfl⟩⟩

set_option maxRecDepth 100000 in
set_option maxHeartbeats 3200000 in
/-- impl.NewGroup -/
theorem newGroup_any (r : Int) (w : World) : Calls Try.prog 8 #[.int .i64 r] w fun e w' => ∃ v', e = .returned (.tuple #[.agg #[v', .int .i64 (pickG (manyI r) (newG r)).Term, .int .i64 (pickG (manyI r) (newG r)).Lead], .bool (manyI r)]) ∧
      Own Cod.replica w' w.heap.size v' (pickG (manyI r) (newG r)).Reps ∧ Below w.heap.size w w' := by
  have Hm := Lib.hid (isMany_int r)
  by_cases h3 : r = 3
  · subst h3
    rw [show manyI 3 = true from rfl] at *
    dsimp only [pickG, newG]
    go_enter Try.func8, Try.ntmps8
    go_wp2_with fail
    refine (Hm.out _).mono ?_
    rintro e w1 ⟨rfl, rfl⟩
    go_wp2_with fail
    refine (repeatReplica_3 _ _ (by simp [go_sem]) (by simp [go_sem]) (by simp [go_sem])).mono ?_
    rintro e w1 ⟨rfl, F⟩
    have O := F.own (c := Cod.replica) (x := ⟨true, [], 0⟩) rfl (by decide) rep_rd0
    have hB : ((w.alloc (Obj.cells #[Value.slice none 0 0, Value.int IntKind.i64 0, Value.int IntKind.i64 0] 27)).alloc (Obj.cells #[Value.bool true, Value.slice none 0 0, Value.int IntKind.i64 0] 50)).heap.size = w.heap.size + 1 + 1 := by simp
    rw [hB] at O
    have b1 : Below w.heap.size w w1 := below_after F.below (by (repeat (first | (with_reducible exact Below.refl _ _) | (with_reducible refine below_setCell ?_ (by first | (simp; done) | (simp; omega) | omega)) | (with_reducible refine below_alloc _ ?_) | (with_reducible refine below_drewN ?_ _) | (with_reducible assumption) | (with_reducible refine below_after (by assumption) ?_))))
    have hz := F.below.size
    have hx := bcell F.below
    have r0 : w1.cell? ⟨w.heap.size, 0, none⟩ = some (.slice none 0 0) := by rw [hx.1 _ _ (by first | (simp; done) | (simp; omega))]; simp [go_sem]
    have r1 : w1.cell? ⟨w.heap.size, 1, none⟩ = some (.int .i64 0) := by rw [hx.1 _ _ (by first | (simp; done) | (simp; omega))]; simp [go_sem]
    have r2 : w1.cell? ⟨w.heap.size, 2, none⟩ = some (.int .i64 0) := by rw [hx.1 _ _ (by first | (simp; done) | (simp; omega))]; simp [go_sem]
    have g0 : w1.frozen? ⟨w.heap.size, 0, none⟩ = false := by rw [hx.2 _ _ (by first | (simp; done) | (simp; omega))]; simp [go_sem]
    have g1 : w1.frozen? ⟨w.heap.size, 1, none⟩ = false := by rw [hx.2 _ _ (by first | (simp; done) | (simp; omega))]; simp [go_sem]
    have g2 : w1.frozen? ⟨w.heap.size, 2, none⟩ = false := by rw [hx.2 _ _ (by first | (simp; done) | (simp; omega))]; simp [go_sem]
    clear F hx
    go_wp2
    refine bodyPost_ret (v := .tuple #[.agg #[.slice (some ⟨w.heap.size + 1 + 1, 0, none⟩) 3 3, .int .i64 0, .int .i64 (-1)], .bool true]) (by simp [results, Try.results8, go_sem, r0, r1, r2, g0, g1, g2]) rfl ⟨_, rfl, ?_, by (repeat (first | (with_reducible exact Below.refl _ _) | (with_reducible refine below_setCell ?_ (by first | (simp; done) | (simp; omega) | omega)) | (with_reducible refine below_alloc _ ?_) | (with_reducible refine below_drewN ?_ _) | (with_reducible assumption) | (with_reducible refine below_after (by assumption) ?_)))⟩
    exact (O.keep (B := w.heap.size + 1 + 1) (Nat.le_refl _) (by (repeat (first | (with_reducible exact Keep.refl _ _) | (with_reducible refine keep_set ?_ (by first | (simp; done) | (simp; omega) | omega)) | (with_reducible refine keep_alloc _ ?_) | (with_reducible refine keep_drewN ?_ _) | (with_reducible assumption) | (with_reducible refine keep_below (by assumption) ?_))))).mono (by omega)
  · by_cases h5 : r = 5
    · subst h5
      rw [show manyI 5 = true from rfl] at *
      dsimp only [pickG, newG]
      go_enter Try.func8, Try.ntmps8
      go_wp2_with fail
      refine (Hm.out _).mono ?_
      rintro e w1 ⟨rfl, rfl⟩
      go_wp2_with fail
      refine (repeatReplica_5 _ _ (by simp [go_sem]) (by simp [go_sem]) (by simp [go_sem])).mono ?_
      rintro e w1 ⟨rfl, F⟩
      have O := F.own (c := Cod.replica) (x := ⟨true, [], 0⟩) rfl (by decide) rep_rd0
      have hB : ((w.alloc (Obj.cells #[Value.slice none 0 0, Value.int IntKind.i64 0, Value.int IntKind.i64 0] 27)).alloc (Obj.cells #[Value.bool true, Value.slice none 0 0, Value.int IntKind.i64 0] 50)).heap.size = w.heap.size + 1 + 1 := by simp
      rw [hB] at O
      have b1 : Below w.heap.size w w1 := below_after F.below (by (repeat (first | (with_reducible exact Below.refl _ _) | (with_reducible refine below_setCell ?_ (by first | (simp; done) | (simp; omega) | omega)) | (with_reducible refine below_alloc _ ?_) | (with_reducible refine below_drewN ?_ _) | (with_reducible assumption) | (with_reducible refine below_after (by assumption) ?_))))
      have hz := F.below.size
      have hx := bcell F.below
      have r0 : w1.cell? ⟨w.heap.size, 0, none⟩ = some (.slice none 0 0) := by rw [hx.1 _ _ (by first | (simp; done) | (simp; omega))]; simp [go_sem]
      have r1 : w1.cell? ⟨w.heap.size, 1, none⟩ = some (.int .i64 0) := by rw [hx.1 _ _ (by first | (simp; done) | (simp; omega))]; simp [go_sem]
      have r2 : w1.cell? ⟨w.heap.size, 2, none⟩ = some (.int .i64 0) := by rw [hx.1 _ _ (by first | (simp; done) | (simp; omega))]; simp [go_sem]
      have g0 : w1.frozen? ⟨w.heap.size, 0, none⟩ = false := by rw [hx.2 _ _ (by first | (simp; done) | (simp; omega))]; simp [go_sem]
      have g1 : w1.frozen? ⟨w.heap.size, 1, none⟩ = false := by rw [hx.2 _ _ (by first | (simp; done) | (simp; omega))]; simp [go_sem]
      have g2 : w1.frozen? ⟨w.heap.size, 2, none⟩ = false := by rw [hx.2 _ _ (by first | (simp; done) | (simp; omega))]; simp [go_sem]
      clear F hx
      go_wp2
      refine bodyPost_ret (v := .tuple #[.agg #[.slice (some ⟨w.heap.size + 1 + 1, 0, none⟩) 5 5, .int .i64 0, .int .i64 (-1)], .bool true]) (by simp [results, Try.results8, go_sem, r0, r1, r2, g0, g1, g2]) rfl ⟨_, rfl, ?_, by (repeat (first | (with_reducible exact Below.refl _ _) | (with_reducible refine below_setCell ?_ (by first | (simp; done) | (simp; omega) | omega)) | (with_reducible refine below_alloc _ ?_) | (with_reducible refine below_drewN ?_ _) | (with_reducible assumption) | (with_reducible refine below_after (by assumption) ?_)))⟩
      exact (O.keep (B := w.heap.size + 1 + 1) (Nat.le_refl _) (by (repeat (first | (with_reducible exact Keep.refl _ _) | (with_reducible refine keep_set ?_ (by first | (simp; done) | (simp; omega) | omega)) | (with_reducible refine keep_alloc _ ?_) | (with_reducible refine keep_drewN ?_ _) | (with_reducible assumption) | (with_reducible refine keep_below (by assumption) ?_))))).mono (by omega)
    · have hf : manyI r = false := by unfold manyI; simp [h3, h5]
      generalize manyI r = q at *
      subst hf
      dsimp only [pickG]
      clear h3 h5
      go_enter Try.func8, Try.ntmps8
      go_wp2_with fail
      refine (Hm.out _).mono ?_
      rintro e w1 ⟨rfl, rfl⟩
      go_wp2
      refine bodyPost_ret (v := .tuple #[.agg #[.slice none 0 0, .int .i64 0, .int .i64 0], .bool false]) (by simp [results, Try.results8, go_sem]) rfl ⟨_, rfl, own_nil _ _ _, by (repeat (first | (with_reducible exact Below.refl _ _) | (with_reducible refine below_setCell ?_ (by first | (simp; done) | (simp; omega) | omega)) | (with_reducible refine below_alloc _ ?_) | (with_reducible refine below_drewN ?_ _) | (with_reducible assumption) | (with_reducible refine below_after (by assumption) ?_)))⟩

end Go.Proofs.Ytfaefjdlfjhniaa


/- spec.NewGroup. -/
namespace Go.Proofs.Ytfaefjdlfjhniaa
open Go.RowKit

theorem rep_rdE {w0 : World} {e : TypeId} {H base : Nat} (hH : w0.heap.size = H) (hb : base ≤ H) :
    ∃ f, Cod.replica.rd (w0.alloc (.cells #[] e)) (lst [.bool true, .slice (some ⟨H, 0, none⟩) 0 0, .int .i64 0]) ⟨true, [], 0⟩ f ∧ Mine (w0.alloc (.cells #[] e)) base f := by
  obtain ⟨f, h, m⟩ := own_made0 (c := Cod.entry) (e := e) hH hb
  exact ⟨f, ⟨[], f, rfl, ⟨rfl, trivial, rfl⟩, f, [], (List.append_nil f).symm, ⟨_, rfl, h⟩, ⟨rfl, by decide, rfl⟩⟩, m⟩

theorem wpList_append_partV {P : Program} {ops : Array Oper} {o : Oper} {rest : List Oper} {a : Act} {Q : Exit → Act → World → Prop} {α : Type} {c : Cod α} (Wp : World) (hgd : o.guard = none) (s x : Operand) (t : TypeId) (ho : o.op = .call { callee := .builtin .append, args := #[s, x], argTypes := #[t, t] })
    (base : Nat) (e e' : TypeId) (i : TypeInfo) (z : Value) (bytes : Nat) (ht : P.underlying t = some (.slice e)) (hi : P.info? e = some i) (hz : i.zero = some z)
    (hsize : i.size = c.size) (hby : i.bytes = bytes) (hzs : z.cells.size = c.size) (hsz : 0 < c.size) (hbp : 0 < bytes)
    (w0 : World) (v : Value) (n : Nat) (xs : List α) (hs : a.eval s = v) (hp : PartV c w0 base e v n xs) (hlen : xs.length = n) (k : Below w0.heap.size w0 Wp)
    (y : α) (f : List Nat) (cs : List Value) (hcl : cs.length = c.size) (hrd : c.rd Wp (lst cs) y f) (hm : Mine Wp w0.heap.size f)
    (H : Nat) (hH : Wp.heap.size = H) (hx : a.eval x = .slice (some ⟨H, 0, none⟩) 1 1) (h1 : ∀ u ∈ cs, u.oneCell' = true)
    (hbytes : (n + 1) * bytes ≤ room) (hbase : base ≤ w0.heap.size)
    (h : ∀ g cap w', Part c w' base e (.slice (some ⟨g, 0, none⟩) (n + 1) cap) (n + 1) (xs ++ [y]) → Below base Wp w' → wpList P ops Q rest (a.put o.dst (.slice (some ⟨g, 0, none⟩) (n + 1) cap)) w') :
    wpList P ops Q (o :: rest) a (Wp.alloc (.cells cs.toArray e')) := by
  refine wpList_plain hgd fun K hK' => ?_
  have := step_append_partK (ops := ops) (Q := Q) (K := K) (E := False) Wp hgd s x t ho base e e' i z bytes ht hi hz hsize hby hzs hsz hbp w0 v n xs hs hp hlen k y f cs hcl hrd hm H hH hx h1 hbytes hbase (fun g cap w' h1 h2 _ => hK' _ _ (h g cap w' h1 h2))
  rwa [if_pos (by simp [Region.wanted, hgd])] at this

theorem rep_snoc {α : Type} (x : α) (k : Nat) : List.replicate (k + 1) x = List.replicate k x ++ [x] := by
  rw [List.replicate_succ']

theorem newG_cost (r : Int) : costGroup (pickG (manyI r) (newG r)) ≤ 1048576 := by
  cases h : manyI r
  · show costReplicaS [] ≤ _
    simp [costReplicaS, sumC]
  · have h2 : r = 3 ∨ r = 5 := by
      unfold manyI at h
      simpa using h
    rcases h2 with rfl | rfl <;> decide

end Go.Proofs.Ytfaefjdlfjhniaa

