/- The two rows of a record that is being read. Plain lemmas. -/
import Derived.Test.YtpiheobpobclgaaGreatDoorRdTxQ
import Derived.Test.YtpiheobpobclgaaGreatDoorAppFlat
import Derived.Test.YtpiheobpobclgaaGreatDoorPartIns
namespace Go.Proofs.YtpiheobpobclgaaGreatDoor
open Go.RowKit

section
variable {α β : Type} {c : Cod α} {d : Cod β} {w w' : World}
theorem PartC.keptFlat (hf : Flat c) {base : Nat} {e : TypeId} {v : Value} {n : Nat} {xs : List α} {cells : List Value} {r : Option Nat} (h : PartC c w base e v n xs cells) (k : w.grownBy w' r) (hne : v.ownBlock = none ∨ v.ownBlock ≠ r) : PartC c w' base e v n xs cells := by
  obtain ⟨fs, ho, hl, hfl, hr, _⟩ := h
  have e0 : (xs.map fun _ => ([] : List Nat)).flatten = [] := by
    rw [List.flatten_eq_nil_iff]
    intro f hf
    obtain ⟨_, _, rfl⟩ := List.mem_map.1 hf
    rfl
  refine ⟨xs.map fun _ => [], ho.kept k hne, hl, by simp, fun j hj f hjf => ?_, ?_, fun b hb => ?_, fun b _ hb => ?_⟩
  · have : f = [] := by
      rw [List.getElem?_map, List.getElem?_eq_getElem hj] at hjf
      simpa using hjf.symm
    subst this
    exact (hf (hr j hj (fs[j]'(by omega)) (List.getElem?_eq_getElem _))).2.1
  · rw [e0]; exact Mine.nil _ _
  · rw [e0] at hb; cases hb
  · rw [e0] at hb; cases hb
/-- Rows of two types lie apart. -/
theorem rows_apart {b1 b2 : Nat} {e1 e2 : TypeId} {v1 v2 : Value} {n1 n2 : Nat} {xs : List α} {ys : List β} {c1 c2 : List Value} (h : PartC c w b1 e1 v1 n1 xs c1) (k : PartC d w b2 e2 v2 n2 ys c2) (hne : e1 ≠ e2) : v1.ownBlock = none ∨ v1.ownBlock ≠ v2.ownBlock := by
  obtain ⟨_, h, _⟩ := h
  obtain ⟨_, k, _⟩ := k
  rcases own_forms h with ⟨rfl, _⟩ | ⟨g, cap, rfl⟩
  · exact Or.inl rfl
  · right
    rcases own_forms k with ⟨rfl, _⟩ | ⟨g', cap', rfl⟩
    · intro e; cases e
    · intro e
      have e : g = g' := Option.some.inj e
      subst e
      obtain ⟨_, cur, hgb, _⟩ := own_some h
      obtain ⟨_, cur', hgb', _⟩ := own_some k
      rw [hgb] at hgb'
      injection hgb' with hh
      injection hh with _ hh
      exact hne hh
end

/-- The rows of a record that is being read. -/
def RowsOf (w : World) (base : Nat) (vR vW : Value) (R : List ByteArray) (W : List WriteD) : Prop := (∃ cs, PartC Cod.str w base 9 vR R.length R cs) ∧ ∃ cs, PartC Cod.write w base 45 vW W.length W cs
theorem RowsOf.below {w w' : World} {base : Nat} {vR vW : Value} {R : List ByteArray} {W : List WriteD} (h : RowsOf w base vR vW R W) (k : Below w.heap.size w w') : RowsOf w' base vR vW R W := by
  obtain ⟨⟨c1, h1⟩, c2, h2⟩ := h
  exact ⟨⟨c1, h1.below k⟩, c2, h2.below k⟩
theorem RowsOf.rd {w : World} {base : Nat} {vR vW : Value} {R : List ByteArray} {W : List WriteD} (h : RowsOf w base vR vW R W) : Rd Cod.str w vR R ∧ Rd Cod.write w vW W := by
  obtain ⟨⟨c1, h1⟩, c2, h2⟩ := h
  exact ⟨(h1.own rfl).rd, (h2.own rfl).rd⟩
theorem RowsOf.own {w : World} {base : Nat} {vR vW : Value} {R : List ByteArray} {W : List WriteD} (h : RowsOf w base vR vW R W) : Own Cod.str w base vR R ∧ Own Cod.write w base vW W := by
  obtain ⟨⟨c1, h1⟩, c2, h2⟩ := h
  exact ⟨h1.own rfl, h2.own rfl⟩
theorem rows_start (w : World) (base : Nat) : RowsOf w base (.slice none 0 0) (.slice none 0 0) [] [] := ⟨⟨[], part_start (World.ownsRow_nil _ _ _ _)⟩, [], part_start (World.ownsRow_nil _ _ _ _)⟩
theorem RowsOf.form {w : World} {base : Nat} {vR vW : Value} {R : List ByteArray} {W : List WriteD} (h : RowsOf w base vR vW R W) : (∃ p c, vR = .slice p R.length c) ∧ ∃ p c, vW = .slice p W.length c := by
  obtain ⟨⟨c1, h1⟩, c2, h2⟩ := h
  exact ⟨h1.form, h2.form⟩

theorem Tryz_infoT_str : (Tryz.prog.info? 9).map (fun i => (i.zero, i.size, i.bytes)) = some (some (.string ⟨#[]⟩), 1, 16) := by kernel_rfl
theorem Tryz_infoT_write : (Tryz.prog.info? 45).map (fun i => (i.zero, i.size, i.bytes)) = some (some (.agg #[.string ⟨#[]⟩, .string ⟨#[]⟩, .bool false]), 3, 40) := by kernel_rfl

/-- A read key appended. -/
theorem app_key {w : World} {base : Nat} {vR vW : Value} {R : List ByteArray} {W : List WriteD} (ty : TypeId) (h : RowsOf w base vR vW R W) (hR : R.length ≤ 100000) (hb : base ≤ w.heap.size) {s : ByteArray} (hs : s.size ≤ maxLen) {wb : World} (k : Below w.heap.size w wb) {B : Nat} (hB : Blk wb B 9 #[.string s]) :
    ∃ p cap w', (Builtin.append_ #[22, 22] ty #[vR, .slice (some ⟨B, 0, none⟩) 1 1]).run Tryz.prog wb = .ok (.slice p (R.length + 1) cap) w' ∧ RowsOf w' base (.slice p (R.length + 1) cap) vW (R ++ [s]) W ∧ wb.grownBy w' vR.ownBlock ∧ Below base wb w' := by
  obtain ⟨i0, hi, hz0, hz1, hz2⟩ := info_parts Tryz_infoT_str
  obtain ⟨⟨c1, h1⟩, c2, h2⟩ := h.below k
  obtain ⟨p, cap, w', c', hrun, hp, hg, hb'⟩ := run_append_flat (P := Tryz.prog) flat_str wb 22 ty base 9 i0 _ 16 Tryz.underlying22 hi hz0 hz1 hz2 rfl (by decide) (by decide) vR R.length R c1 h1 rfl
    (.slice (some ⟨B, 0, none⟩) 1 1) [s] (rd_box hB ⟨rfl, hs, rfl⟩) (by show (R.length + 1) * 16 ≤ room; unfold room; omega) (Nat.le_trans hb k.size)
  exact ⟨p, cap, w', hrun, ⟨⟨c', by rw [List.length_append]; exact hp⟩, c2, h2.keptFlat flat_write hg (rows_apart h2 h1 (by decide))⟩, hg, hb'⟩
/-- A write appended. -/
theorem app_write {w : World} {base : Nat} {vR vW : Value} {R : List ByteArray} {W : List WriteD} (ty : TypeId) (h : RowsOf w base vR vW R W) (hW : W.length ≤ 100000) (hb : base ≤ w.heap.size) {x : WriteD} (h1 : x.Key.size ≤ maxLen) (h2 : x.Val.size ≤ maxLen) {wb : World} (k : Below w.heap.size w wb) {B : Nat} (hB : Blk wb B 45 #[.string x.Key, .string x.Val, .bool x.Gone]) :
    ∃ p cap w', (Builtin.append_ #[23, 23] ty #[vW, .slice (some ⟨B, 0, none⟩) 1 1]).run Tryz.prog wb = .ok (.slice p (W.length + 1) cap) w' ∧ RowsOf w' base vR (.slice p (W.length + 1) cap) R (W ++ [x]) ∧ wb.grownBy w' vW.ownBlock ∧ Below base wb w' := by
  obtain ⟨i0, hi, hz0, hz1, hz2⟩ := info_parts Tryz_infoT_write
  obtain ⟨⟨c1, k1⟩, c2, k2⟩ := h.below k
  obtain ⟨p, cap, w', c', hrun, hp, hg, hb'⟩ := run_append_flat (P := Tryz.prog) flat_write wb 23 ty base 45 i0 _ 40 Tryz.underlying23 hi hz0 hz1 hz2 rfl (by decide) (by decide) vW W.length W c2 k2 rfl
    (.slice (some ⟨B, 0, none⟩) 1 1) [x] (rd_box hB (mk_write rfl h1 rfl h2 rfl)) (by show (W.length + 1) * 40 ≤ room; unfold room; omega) (Nat.le_trans hb k.size)
  exact ⟨p, cap, w', hrun, ⟨⟨c1, k1.keptFlat flat_str hg (rows_apart k1 k2 (by decide))⟩, c', by rw [List.length_append]; exact hp⟩, hg, hb'⟩

theorem RowsOf.lt {w : World} {base : Nat} {vR vW : Value} {R : List ByteArray} {W : List WriteD} (h : RowsOf w base vR vW R W) : (∀ g, vR.ownBlock = some g → g < w.heap.size) ∧ ∀ g, vW.ownBlock = some g → g < w.heap.size := by
  obtain ⟨⟨c1, _, h1, _⟩, c2, _, h2, _⟩ := h
  exact ⟨fun g hg => (h1.lt g hg).2, fun g hg => (h2.lt g hg).2⟩
/-- A box ahead of what grew stays. -/
theorem Blk.grownV {w w' : World} {B N : Nat} {e : TypeId} {cs : Array Value} {v : Value} (h : Blk w B e cs) (k : w.grownBy w' v.ownBlock) (hv : ∀ g, v.ownBlock = some g → g < N) (hB : N ≤ B) : Blk w' B e cs := h.of (k.block _ h.lt (fun e => by have := hv B e.symm; omega))

theorem head_of {s : ByteArray} (hp : 0 < s.size) : s.data.toList.head? = some (s[0]'hp) := by
  rw [List.head?_eq_getElem?, List.getElem?_eq_getElem (by rw [Array.length_toList]; exact hp)]
  rfl
theorem tl_of (s : ByteArray) : tl s = s.extract 1 s.size := by
  refine bytesInj ?_
  have h2 : s.data.toList.length = s.size := by rw [Array.length_toList]; rfl
  rw [tl_list, ByteArray.data_extract, Array.toList_extract, List.extract_eq_take_drop, List.take_of_length_le (by rw [List.length_drop]; omega)]
theorem byte_iff {s : ByteArray} (hp : 0 < s.size) {z : Int} (hz : ((s[0]'hp).toNat : Int) = z) (c : UInt8) : (s.data.toList.head? = some c) = (z = (c.toNat : Int)) := by
  rw [head_of hp, Option.some.injEq]
  refine propext ⟨fun h => by rw [← hz, h], fun h => UInt8.toNat_inj.1 (by omega)⟩
theorem stepS_of {s : ByteArray} (x : RecD) (hp : 0 < s.size) {z : Int} (hz : ((s[0]'hp).toNat : Int) = z) : stepS x s = if z = 64 then { x with Time := readD (s.extract 1 s.size).data.toList, Yes := isYes x.Kind } else if z = 62 then { x with Lead := readD (s.extract 1 s.size).data.toList } else if z = 63 then { x with Reads := x.Reads ++ [s.extract 1 s.size] } else if z = 33 then { x with Writes := x.Writes ++ [wrS (s.extract 1 s.size)] } else x := by
  unfold stepS
  rw [if_neg (fun e => by rw [e] at hp; exact absurd hp (by decide)), tl_of]
  simp only [byte_iff hp hz]
  rfl
theorem stepI_of {s : ByteArray} (x : RecD) (hp : 0 < s.size) (hno : s ≠ ⟨#[110, 111]⟩) {z : Int} (hz : ((s[0]'hp).toNat : Int) = z) : stepI x s = if z = 64 then bif (readI (s.extract 1 s.size).data.toList 1 100000).2 then some { x with Time := (readI (s.extract 1 s.size).data.toList 1 100000).1, Yes := isYes x.Kind } else none
    else if z = 62 then bif (readI (s.extract 1 s.size).data.toList 0 3).2 then some { x with Lead := (readI (s.extract 1 s.size).data.toList 0 3).1 } else none
    else if z = 63 then some { x with Reads := x.Reads ++ [s.extract 1 s.size] } else if z = 33 then some { x with Writes := x.Writes ++ [wrI (s.extract 1 s.size)] } else bif (readI s.data.toList 1 60).2 then some { x with Txn := (readI s.data.toList 1 60).1 } else none := by
  unfold stepI
  rw [if_neg hno, if_neg (fun e => by rw [e] at hp; exact absurd hp (by decide)), tl_of]
  simp only [byte_iff hp hz]
  rfl

/-- Only cells of the boxes A and B have been set. -/
def Twain (A B : Nat) (w w' : World) : Prop := ∀ i, i ≠ A → i ≠ B → w'.heap[i]? = w.heap[i]?
theorem Twain.refl (A B : Nat) (w : World) : Twain A B w w := fun _ _ _ => rfl
theorem Twain.set {A B : Nat} {w w' : World} {p : Addr} {u : Value} (h : Twain A B w w') (hp : p.block = A ∨ p.block = B) : Twain A B w (w'.setCell p u) := fun i h1 h2 => (Below.heap_setCell w' p u i (by omega)).trans (h i h1 h2)
theorem rows_twain {A B : Nat} {w w' : World} {base : Nat} {vR vW : Value} {R : List ByteArray} {W : List WriteD} {ca cb : Array Value} (h : RowsOf w base vR vW R W) (hA : Blk w A 25 ca) (hB : Blk w B 25 cb) (k : Twain A B w w') : RowsOf w' base vR vW R W := by
  have key : ∀ {e : TypeId} {v : Value} {n : Nat} {cs : List Value} {sz : Nat}, e ≠ 25 → w.ownsRow base e sz v n cs → w'.ownsRow base e sz v n cs := fun {e v n cs sz} hne h => by
    have ap : ∀ {C : Nat} {cc : Array Value}, Blk w C 25 cc → v.ownBlock ≠ some C := fun {C cc} hC eq => by
      rcases own_forms h with ⟨rfl, _⟩ | ⟨g, cap, rfl⟩
      · cases eq
      · obtain ⟨_, cur, hgb, _⟩ := own_some h
        have : g = C := Option.some.inj eq
        subst this
        unfold Blk at hC
        rw [hgb] at hC
        injection hC with hC
        injection hC with _ hC
        exact hne hC
    refine ⟨h.1, ?_⟩
    rcases h.2 with h0 | ⟨g, cap, cur, e1, hg, hgb, rest⟩
    · exact Or.inl h0
    · have hv : v.ownBlock = some g := by rw [e1]; rfl
      exact Or.inr ⟨g, cap, cur, e1, hg, (k g (fun e => ap hA (by rw [hv, e])) (fun e => ap hB (by rw [hv, e]))).trans hgb, rest⟩
  obtain ⟨⟨c1, f1, h1, h1'⟩, c2, f2, h2, h2'⟩ := h
  have fl : ∀ {α : Type} {c : Cod α} (_ : Flat c) {e : TypeId} {v : Value} {n : Nat} {xs : List α} {cells : List Value}, e ≠ 25 → PartC c w base e v n xs cells → PartC c w' base e v n xs cells := fun {α c} hf {e v n xs cells} hne hp => by
    obtain ⟨fs, ho, hl, hfl, hr, _⟩ := hp
    have e0 : (xs.map fun _ => ([] : List Nat)).flatten = [] := by
      rw [List.flatten_eq_nil_iff]
      intro f hf
      obtain ⟨_, _, rfl⟩ := List.mem_map.1 hf
      rfl
    refine ⟨xs.map fun _ => [], key hne ho, hl, by simp, fun j hj f hjf => ?_, ?_, fun b hb => ?_, fun b _ hb => ?_⟩
    · have : f = [] := by
        rw [List.getElem?_map, List.getElem?_eq_getElem hj] at hjf
        simpa using hjf.symm
      subst this
      exact (hf (hr j hj (fs[j]'(by omega)) (List.getElem?_eq_getElem _))).2.1
    · rw [e0]; exact Mine.nil _ _
    · rw [e0] at hb; cases hb
    · rw [e0] at hb; cases hb
  exact ⟨⟨c1, fl flat_str (by decide) ⟨f1, h1, h1'⟩⟩, c2, fl flat_write (by decide) ⟨f2, h2, h2'⟩⟩

end Go.Proofs.YtpiheobpobclgaaGreatDoor
