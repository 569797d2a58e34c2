/- Plain lemmas and contracts that all proofs of this seat lean on: bundle Newg. -/
import Derived.Test.YtkcidneefdaaiaaRowd
import Derived.Outline
import Derived.Laws.IdiomCopy
import Derived.Deep.RegionLaw
import Derived.Test.YtkcidneefdaaiaaPutb
import Derived.Test.YtkcidneefdaaiaaGcopy
import Derived.Test.YtkcidneefdaaiaaLogg
import Derived.Test.YtkcidneefdaaiaaHeld
import Derived.Test.YtkcidneefdaaiaaSafeb
/- slices.Repeat of one element of several cells: plain lemmas on copies. Printed by mkrep.py. -/
namespace Go.Proofs.Ytkcidneefdaaiaa
open Go.RowKit

section
variable {P : Program}

/-- A copy of elements of several cells: all is read before anything is written. -/
theorem run_copy_wide (w : World) (dT sT ty elem : TypeId) (b o dLen dCap : Nat) (a : Addr) (sLen sCap s m : Nat) (cs : List Value)
    (hu : P.underlying dT = some (.slice elem)) (hs : (P.info? elem).map (·.size) = some s) (hm : Nat.min sLen dLen = m) (hn : cs.length = m * s)
    (hsrc : ∀ j v, cs[j]? = some v → w.cell? (a.add j) = some v) (hc : ∀ j, j < cs.length → (w.cell? ⟨b, o + j, none⟩).isSome = true) (hf : ∀ j, j < cs.length → w.frozen? ⟨b, o + j, none⟩ = false) (h1 : ∀ v ∈ cs, v.oneCell' = true) :
    (Builtin.copy_ #[dT, sT] ty #[.slice (some ⟨b, o, none⟩) dLen dCap, .slice (some a) sLen sCap]).run P w = .ok (goInt m) (w.setCells b o cs) := by
  have hl := run_loadCells_list (P := P) w a cs hsrc
  have hst := run_storeCells_cells (P := P) b o cs 0 w (by simpa using hc) (by simpa using hf) h1
  cases hq : P.info? elem with
  | none => simp [hq] at hs
  | some i =>
    have hi : i.size = s := by simpa [hq] using hs
    simp [Builtin.copy_, run_underlying hu, Builtin.lenOf, Builtin.firstCells, sizeOf, typeInfo, hq, hi, hm, ← hn, hl, hst]

theorem step_copy_wide {ops : Array Oper} {o : Oper} {a : Act} {w : World} {K : Act → World → Prop} {Q : Exit → Act → World → Prop} {E : Prop} (hgd : o.guard = none) (d s : Operand) (dT sT : TypeId)
    (ho : o.op = .call { callee := .builtin .copy, args := #[d, s], argTypes := #[dT, sT] }) (elem : TypeId) (sz : Nat) (hu : P.underlying dT = some (.slice elem)) (hsz : (P.info? elem).map (·.size) = some sz)
    (b off dLen dCap : Nat) (ad : Addr) (sLen sCap m : Nat) (hd : a.eval d = .slice (some ⟨b, off, none⟩) dLen dCap) (hs : a.eval s = .slice (some ad) sLen sCap)
    (cs : List Value) (hm : Nat.min sLen dLen = m) (hn : cs.length = m * sz)
    (hsrc : ∀ j v, cs[j]? = some v → w.cell? (ad.add j) = some v) (hc : ∀ j, j < cs.length → (w.cell? ⟨b, off + j, none⟩).isSome = true) (hf : ∀ j, j < cs.length → w.frozen? ⟨b, off + j, none⟩ = false) (h1 : ∀ v ∈ cs, v.oneCell' = true)
    (h : K (a.put o.dst (goInt m)) (w.setCells b off cs)) : if Region.wanted o (yielded ops a.tmps) = true then Oper.wp P o a w K Q else E := by
  have hw : Region.wanted o (yielded ops a.tmps) = true := by simp [Region.wanted, hgd]
  rw [if_pos hw]
  have hrun := run_copy_wide (P := P) w dT sT o.type elem b off dLen dCap ad sLen sCap sz m cs hu hsz hm hn hsrc hc hf h1
  unfold Oper.wp
  simp [execOp, ho, resolve, invoke, builtin, hd, hs, hrun, Result.andThen]
  exact h

theorem wpList_copy_wide {w : World} {ops : Array Oper} {rest : List Oper} {o : Oper} {a : Act} {Q : Exit → Act → World → Prop} (hgd : o.guard = none) (d s : Operand) (dT sT : TypeId)
    (ho : o.op = .call { callee := .builtin .copy, args := #[d, s], argTypes := #[dT, sT] }) (elem : TypeId) (sz : Nat) (hu : P.underlying dT = some (.slice elem)) (hsz : (P.info? elem).map (·.size) = some sz)
    (b off dLen dCap : Nat) (ad : Addr) (sLen sCap m : Nat) (hd : a.eval d = .slice (some ⟨b, off, none⟩) dLen dCap) (hs : a.eval s = .slice (some ad) sLen sCap)
    (cs : List Value) (hm : Nat.min sLen dLen = m) (hn : cs.length = m * sz)
    (hsrc : ∀ j v, cs[j]? = some v → w.cell? (ad.add j) = some v) (hc : ∀ j, j < cs.length → (w.cell? ⟨b, off + j, none⟩).isSome = true) (hf : ∀ j, j < cs.length → w.frozen? ⟨b, off + j, none⟩ = false) (h1 : ∀ v ∈ cs, v.oneCell' = true)
    (h : wpList P ops Q rest (a.put o.dst (goInt m)) (w.setCells b off cs)) : wpList P ops Q (o :: rest) a w := by
  refine wpList_plain hgd fun K hK' => ?_
  have hrun := run_copy_wide (P := P) w dT sT o.type elem b off dLen dCap ad sLen sCap sz m cs hu hsz hm hn hsrc hc hf h1
  unfold Oper.wp
  simp [execOp, ho, resolve, invoke, builtin, hd, hs, hrun, Result.andThen]
  exact hK' _ _ h
end

end Go.Proofs.Ytkcidneefdaaiaa


/- A row that is being filled with copies of one element (slices.Repeat). Plain lemmas over any program. -/
namespace Go.Proofs.Ytkcidneefdaaiaa
open Go.RowKit

/-- So many copies. -/
def reps (pat : List Value) : Nat → List Value
  | 0 => []
  | c + 1 => pat ++ reps pat c

theorem reps_length (pat : List Value) : ∀ c, (reps pat c).length = c * pat.length
  | 0 => by simp [reps]
  | c + 1 => by rw [reps, List.length_append, reps_length pat c, Nat.add_mul, Nat.one_mul, Nat.add_comm]

theorem reps_get (pat : List Value) : ∀ (c j : Nat), j < c * pat.length → (reps pat c)[j]? = pat[j % pat.length]?
  | 0, j, h => by simp at h
  | c + 1, j, h => by
    rw [reps]
    by_cases hj : j < pat.length
    · rw [List.getElem?_append_left hj, Nat.mod_eq_of_lt hj]
    · rw [Nat.add_mul] at h
      rw [List.getElem?_append_right (by omega), reps_get pat c _ (by omega), ← Nat.mod_eq_sub_mod (by omega)]

theorem reps_mem {pat : List Value} {v : Value} : ∀ {c : Nat}, v ∈ reps pat c → v ∈ pat
  | 0, h => by cases h
  | c + 1, h => by
    rcases List.mem_append.1 h with h | h
    · exact h
    · exact reps_mem h

/-- The first k elements are there. -/
structure Fill (w : World) (e : TypeId) (pat : List Value) (n k : Nat) (wr : World) : Prop where
  below : Below w.heap.size w wr
  row : ∃ cur, wr.heap[w.heap.size]? = some (.cells cur e (0, 0)) ∧ cur.size = n * pat.length ∧ ∀ j, j < k * pat.length → cur[j]? = pat[j % pat.length]?

variable {w wr : World} {e : TypeId} {pat : List Value} {n k : Nat}

theorem fill_start {cells : Array Value} (h : cells.size = n * pat.length) : Fill w e pat n 0 (w.alloc (.cells cells e)) :=
  ⟨below_new _ _, cells, by show (w.heap.push _)[w.heap.size]? = _; simp, h, fun j hj => by simp at hj⟩

theorem Fill.drew (h : Fill w e pat n k wr) : Fill w e pat n k wr.drew := ⟨h.below.drew, h.row⟩

theorem Fill.lt (h : Fill w e pat n k wr) : w.heap.size < wr.heap.size := by
  obtain ⟨_, cur, h1, _⟩ := h
  exact (Array.getElem?_eq_some_iff.1 h1).1

theorem Fill.src (h : Fill w e pat n k wr) {c : Nat} (hc : c ≤ k) : ∀ j v, (reps pat c)[j]? = some v → wr.cell? ((⟨w.heap.size, 0, none⟩ : Addr).add j) = some v := by
  obtain ⟨_, cur, h1, h2, h3⟩ := h
  intro j v hj
  have hl : j < c * pat.length := by rw [← reps_length]; exact (List.getElem?_eq_some_iff.1 hj).1
  have hk : c * pat.length ≤ k * pat.length := Nat.mul_le_mul_right _ hc
  rw [WideShapes.add_plain, Nat.zero_add]
  rw [reps_get pat c j hl] at hj
  simp [World.cell?, h1, h3 j (by omega), hj]

theorem Fill.is (h : Fill w e pat n k wr) {c off : Nat} (ho : off = k * pat.length) (hc : k + c ≤ n) : ∀ j, j < (reps pat c).length → (wr.cell? ⟨w.heap.size, off + j, none⟩).isSome = true := by
  obtain ⟨_, cur, h1, h2, h3⟩ := h
  intro j hj
  rw [reps_length] at hj
  have hk : (k + c) * pat.length ≤ n * pat.length := Nat.mul_le_mul_right _ hc
  rw [Nat.add_mul] at hk
  have : off + j < cur.size := by omega
  simp [World.cell?, h1, this]

theorem Fill.thawed (h : Fill w e pat n k wr) (i : Nat) : wr.frozen? ⟨w.heap.size, i, none⟩ = false := by
  obtain ⟨_, cur, h1, h2, h3⟩ := h
  simp [World.frozen?, h1]

theorem Fill.next (h : Fill w e pat n k wr) {c off : Nat} (ho : off = k * pat.length) (hc : k + c ≤ n) : Fill w e pat n (k + c) (wr.setCells w.heap.size off (reps pat c)) := by
  have his := h.is ho hc
  obtain ⟨hb, cur, h1, h2, h3⟩ := h
  obtain ⟨cur', q1, q2⟩ := heap_setCells_same w.heap.size e (0, 0) (reps pat c) off wr cur h1
  refine ⟨below_setCells (Nat.le_refl _) _ _ _ hb, cur', q1, by rw [q2, h2], fun j hj => ?_⟩
  have hcell : ∀ j, (wr.setCells w.heap.size off (reps pat c)).cell? ⟨w.heap.size, j, none⟩ = cur'[j]? := fun j => by simp [World.cell?, q1]
  have hold : ∀ j, wr.cell? ⟨w.heap.size, j, none⟩ = cur[j]? := fun j => by simp [World.cell?, h1]
  rw [← hcell]
  rw [Nat.add_mul] at hj
  by_cases hjk : j < off
  · rw [World.cell?_setCells_out w.heap.size (reps pat c) _ _ _ (fun _ _ => Or.inl (by simp; omega)), hold]
    exact h3 j (by omega)
  · obtain ⟨i, rfl⟩ : ∃ i, j = off + i := ⟨j - off, by omega⟩
    have hi : i < c * pat.length := by omega
    rw [World.cell?_setCells_in w.heap.size (reps pat c) _ _ his i (by rw [reps_length]; exact hi), ← List.getElem?_eq_getElem, reps_get pat c i hi, ho, Nat.mul_comm k, Nat.mul_add_mod]

theorem Fill.own {α : Type} {c : Cod α} {x : α} (h : Fill w e pat n n wr) (hs : c.size = pat.length) (hn : n ≤ maxLen) (hx : ∀ W, c.rd W (lst pat) x []) : Own c wr w.heap.size (.slice (some ⟨w.heap.size, 0, none⟩) n n) (List.replicate n x) := by
  have hz := h.lt
  have ht := h.thawed
  obtain ⟨_, cur, h1, h2, h3⟩ := h
  have hcell : ∀ j, wr.cell? ⟨w.heap.size, j, none⟩ = cur[j]? := fun j => by simp [World.cell?, h1]
  refine ⟨w.heap.size :: (List.replicate n ([] : List Nat)).flatten, ⟨some ⟨w.heap.size, 0, none⟩, n, by simp, by simp, hn, (fun h => by cases h), Or.inr ⟨w.heap.size, 0, List.replicate n [], rfl, rfl, hz, Cod.elems_of c (by simp) fun k hk f hf => ?_⟩⟩, ?_⟩
  · have hkn : k < n := by simpa using hk
    have hf0 : f = [] := by simp [hkn] at hf; exact hf
    subst hf0
    rw [List.getElem_replicate]
    refine c.ext (fun i hi => ?_) (hx wr)
    show pat[i]? = wr.cell? ⟨w.heap.size, 0 + k * c.size + i, none⟩
    have hlt : k * pat.length + i < n * pat.length := by rw [← hs]; exact idx_lt hkn hi
    rw [Nat.zero_add, hcell, hs, h3 _ hlt, Nat.mul_comm k, Nat.mul_add_mod, Nat.mod_eq_of_lt (by rw [← hs]; exact hi)]
  · refine ⟨by simp, fun b hb => ?_, fun b hb i => ?_⟩
    · have : b = w.heap.size := by simpa using hb
      omega
    · have : b = w.heap.size := by simpa using hb
      subst this
      exact ht i

end Go.Proofs.Ytkcidneefdaaiaa


/- slices.Repeat at Replica. Printed by mkrep.py. -/
namespace Go.Proofs.Ytkcidneefdaaiaa
open Go.RowKit

end Go.Proofs.Ytkcidneefdaaiaa


/- NewGroup, both. -/
namespace Go.Proofs.Ytkcidneefdaaiaa
open Go.RowKit

/-- Whether a group may have so many. -/
def manyI (r : Int) : Bool := (r == 3) || (r == 5)
/-- A group without entries. -/
def newG (r : Int) : GroupD := ⟨List.replicate r.toNat ⟨true, [], 0⟩, 0, -1⟩

theorem rep_rd0 (W : World) : Cod.replica.rd W (lst [.bool true, .slice none 0 0, .int .i64 0]) ⟨true, [], 0⟩ [] :=
  ⟨[], [], rfl, ⟨rfl, trivial, rfl⟩, [], [], rfl, ⟨.slice none 0 0, rfl, ⟨none, 0, rfl, Nat.le_refl _, Nat.zero_le _, fun _ => rfl, Or.inl ⟨rfl, rfl⟩⟩⟩, ⟨rfl, by decide, rfl⟩⟩

end Go.Proofs.Ytkcidneefdaaiaa


/- spec.NewGroup. -/
namespace Go.Proofs.Ytkcidneefdaaiaa
open Go.RowKit

theorem rep_rdE {w0 : World} {e : TypeId} {H base : Nat} (hH : w0.heap.size = H) (hb : base ≤ H) :
    ∃ f, Cod.replica.rd (w0.alloc (.cells #[] e)) (lst [.bool true, .slice (some ⟨H, 0, none⟩) 0 0, .int .i64 0]) ⟨true, [], 0⟩ f ∧ Mine (w0.alloc (.cells #[] e)) base f := by
  obtain ⟨f, h, m⟩ := own_made0 (c := Cod.entry) (e := e) hH hb
  exact ⟨f, ⟨[], f, rfl, ⟨rfl, trivial, rfl⟩, f, [], (List.append_nil f).symm, ⟨_, rfl, h⟩, ⟨rfl, by decide, rfl⟩⟩, m⟩

theorem wpList_append_partV {P : Program} {ops : Array Oper} {o : Oper} {rest : List Oper} {a : Act} {Q : Exit → Act → World → Prop} {α : Type} {c : Cod α} (Wp : World) (hgd : o.guard = none) (s x : Operand) (t : TypeId) (ho : o.op = .call { callee := .builtin .append, args := #[s, x], argTypes := #[t, t] })
    (base : Nat) (e e' : TypeId) (i : TypeInfo) (z : Value) (bytes : Nat) (ht : P.underlying t = some (.slice e)) (hi : P.info? e = some i) (hz : i.zero = some z)
    (hsize : i.size = c.size) (hby : i.bytes = bytes) (hzs : z.cells.size = c.size) (hsz : 0 < c.size) (hbp : 0 < bytes)
    (w0 : World) (v : Value) (n : Nat) (xs : List α) (hs : a.eval s = v) (hp : PartV c w0 base e v n xs) (hlen : xs.length = n) (k : Below w0.heap.size w0 Wp)
    (y : α) (f : List Nat) (cs : List Value) (hcl : cs.length = c.size) (hrd : c.rd Wp (lst cs) y f) (hm : Mine Wp w0.heap.size f)
    (H : Nat) (hH : Wp.heap.size = H) (hx : a.eval x = .slice (some ⟨H, 0, none⟩) 1 1) (h1 : ∀ u ∈ cs, u.oneCell' = true)
    (hbytes : (n + 1) * bytes ≤ room) (hbase : base ≤ w0.heap.size)
    (h : ∀ g cap w', Part c w' base e (.slice (some ⟨g, 0, none⟩) (n + 1) cap) (n + 1) (xs ++ [y]) → Below base Wp w' → wpList P ops Q rest (a.put o.dst (.slice (some ⟨g, 0, none⟩) (n + 1) cap)) w') :
    wpList P ops Q (o :: rest) a (Wp.alloc (.cells cs.toArray e')) := by
  refine wpList_plain hgd fun K hK' => ?_
  have := step_append_partK (ops := ops) (Q := Q) (K := K) (E := False) Wp hgd s x t ho base e e' i z bytes ht hi hz hsize hby hzs hsz hbp w0 v n xs hs hp hlen k y f cs hcl hrd hm H hH hx h1 hbytes hbase (fun g cap w' h1 h2 _ => hK' _ _ (h g cap w' h1 h2))
  rwa [if_pos (by simp [Region.wanted, hgd])] at this

theorem rep_snoc {α : Type} (x : α) (k : Nat) : List.replicate (k + 1) x = List.replicate k x ++ [x] := by
  rw [List.replicate_succ']

theorem newG_cost (r : Int) : costGroup (pickG (manyI r) (newG r)) ≤ 1048576 := by
  cases h : manyI r
  · show costReplicaS [] ≤ _
    simp [costReplicaS, sumC]
  · have h2 : r = 3 ∨ r = 5 := by
      unfold manyI at h
      simpa using h
    rcases h2 with rfl | rfl <;> decide

end Go.Proofs.Ytkcidneefdaaiaa

