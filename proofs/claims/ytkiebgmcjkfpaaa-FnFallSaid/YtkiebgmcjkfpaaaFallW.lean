/- The law FnFall walked. -/
import Derived.Test.YtkiebgmcjkfpaaaFallLaw
import Derived.Test.YtkiebgmcjkfpaaaFallText
import Derived.Test.YtkiebgmcjkfpaaaFramesOn
import Derived.Test.YtkiebgmcjkfpaaaDisk5
import Derived.Laws.StructEq
namespace Go.Proofs.Ytkiebgmcjkfpaaa
open Go.RowKit

set_option maxRecDepth 100000 in
/-- laws.vTexts of two lists that are one. -/
theorem vTexts_same (v1 v2 : Value) (l : List ByteArray) (hl : l.length ≤ 1099511627776) (w : World) (h1 : StrRow w v1 l) (h2 : StrRow w v2 l) :
    Calls Try.prog 35 #[v1, v2] w fun e w' => e = .returned (.bool true) ∧ Below w.heap.size w w' := by
  obtain ⟨p1, c1, rfl, r1⟩ := h1
  obtain ⟨p2, c2, rfl, r2⟩ := h2
  have R1 := Lib.hid r1
  have R2 := Lib.hid r2
  have Hl := Lib.hid hl
  clear r1 r2 hl
  obtain ⟨n, hn⟩ : ∃ n : Nat, l.length = n := ⟨_, rfl⟩
  have Hn := Lib.hid hn
  rw [hn]
  clear hn
  go_enter Try.func35, Try.ntmps35
  go_wp2
  go_loopw [5] (fun i wr => ∃ k : Nat, i = .int .i64 (k : Int) ∧ k ≤ n ∧ Below w.heap.size w wr) (fun i _ => n - (intOf i).toNat)
  case atStart => exact ⟨0, rfl, Nat.zero_le _, Below.refl _ _⟩
  case round =>
    obtain ⟨k, rfl, hk, hb⟩ := hrel
    by_cases hlt : k < n
    · have hlt2 : (k : Int) < (n : Int) := by omega
      have hnb : (n : Int) ≤ 1099511627776 := by have := Hl.out; have := Hn.out; omega
      obtain ⟨g1, o1, rfl, hg1, hc1⟩ := R1.out (by have := Hn.out; omega)
      obtain ⟨g2, o2, rfl, hg2, hc2⟩ := R2.out (by have := Hn.out; omega)
      have d1 : wr.cell? ⟨g1, o1 + k, none⟩ = some (.string (l[k]'(by have := Hn.out; omega))) := (hb.cell (p := ⟨g1, o1 + k, none⟩) hg1).trans (hc1 k _)
      have d2 : wr.cell? ⟨g2, o2 + k, none⟩ = some (.string (l[k]'(by have := Hn.out; omega))) := (hb.cell (p := ⟨g2, o2 + k, none⟩) hg2).trans (hc2 k _)
      clear hc1 hc2
      generalize l[k]'(by have := Hn.out; omega) = s at *
      go_wp2
      go_quiet (fail)
      go_wp2
      go_roundw
      case rel => exact ⟨k + 1, by go_num, by omega, below_drewN hb _⟩
      case measure => simp [intOf]; omega
    · have hlt2 : (n : Int) ≤ (k : Int) := by omega
      go_wp2
      go_ret
      exact ⟨rfl, hb⟩


theorem StrRow.take {w : World} {p : Option Addr} {n cap : Nat} {l : List ByteArray} (h : StrRow w (.slice p n cap) l) (k : Nat) (hk : k ≤ l.length) : StrRow w (.slice p k cap) (l.take k) := by
  obtain ⟨p', cap', e, hr⟩ := h
  injection e with e1 e2 e3
  subst e1 e3
  refine ⟨p, cap, by rw [List.length_take, Nat.min_eq_left hk], fun hl => ?_⟩
  rw [List.length_take] at hl
  obtain ⟨g, o, hp, hg, hc⟩ := hr (by omega)
  refine ⟨g, o, hp, hg, fun j hj => ?_⟩
  rw [List.length_take] at hj
  rw [List.getElem_take]
  exact hc j (by omega)

theorem neq_disk (x y : ByteArray) (W : World) : (binOp .neq 51 (.agg #[.string x, .string y]) (.agg #[.string x, .string y])).run Try.prog W = .ok (.bool false) W := by
  rw [run_neq_struct, run_equalIn_agg W 9999 51 _ _ (by rw [Program.fieldsOf, Try.underlying51]) (by kernel_rfl)]
  rw [Program.fieldsOf, Try.underlying51]
  simp [Op.eqFields, go_sem]

theorem Try_infoF_int : (Try.prog.info? 3).map (fun i => (i.zero, i.size, i.bytes)) = some (some (.int .i64 0), 1, 8) := by kernel_rfl
theorem Try_infoF_str : (Try.prog.info? 9).map (fun i => (i.zero, i.size, i.bytes)) = some (some (.string ⟨#[]⟩), 1, 16) := by kernel_rfl

/-- The ends of the frames, as they lie in memory. -/
def EndsOf (l : List ByteArray) (es : List Value) : Prop := es.length = l.length ∧ ∀ j, j < l.length → es[j]? = some (.int .i64 (catZ l (j + 1) : Int))

theorem ends_snoc {l : List ByteArray} {es : List Value} (h : EndsOf l es) (s : ByteArray) (z : Int) (hz : z = ((catF (l ++ [s])).size : Int)) : EndsOf (l ++ [s]) (es ++ [.int .i64 z]) := by
  refine ⟨by simp [h.1], fun j hj => ?_⟩
  simp only [List.length_append, List.length_singleton] at hj
  by_cases e : j < l.length
  · rw [List.getElem?_append_left (by rw [h.1]; exact e), h.2 j e]
    unfold catZ
    rw [List.take_append_of_le_length (by omega)]
  · obtain rfl : j = l.length := by omega
    rw [List.getElem?_append_right (by rw [h.1]; exact Nat.le_refl _), h.1, Nat.sub_self, hz]
    unfold catZ
    rw [List.take_of_length_le (by simp)]
    rfl

theorem catF_small : ∀ (l : List ByteArray), (∀ s ∈ l, s.size ≤ 8) → (catF l).size ≤ 12 * l.length
  | [], _ => Nat.le_refl 0
  | s :: l, h => by
    have h1 := catF_small l (fun x hx => h x (List.mem_cons_of_mem _ hx))
    have h2 := h s List.mem_cons_self
    have h3 := frame_size (s := s) (by omega)
    show (frameB s ++ catF l).size ≤ _
    rw [ByteArray.size_append, List.length_cons]
    omega

/-- Where the writing stands. -/
structure Wrote (l : List ByteArray) (m : Nat) (x y : ByteArray) : Prop where
  few : l.length ≤ 8
  kept : m ≤ l.length
  short : ∀ s ∈ l, s.size ≤ 8
  sync : x = catF (l.take m)
  all : x ++ y = catF l

theorem Wrote.small {l : List ByteArray} {m : Nat} {x y : ByteArray} (h : Wrote l m x y) : x.size + y.size ≤ 96 := by
  have h1 := catF_small l h.short
  rw [← h.all, ByteArray.size_append] at h1
  have := h.few
  omega
theorem Wrote.put {l : List ByteArray} {m : Nat} {x y : ByteArray} (h : Wrote l m x y) (hl : l.length < 8) {s : ByteArray} (hs : s.size ≤ 8) : Wrote (l ++ [s]) m x (y ++ frameB s) :=
  ⟨by simp; omega, by have := h.kept; simp; omega, fun z hz => by
    rcases List.mem_append.1 hz with hz | hz
    · exact h.short z hz
    · rw [List.mem_singleton] at hz; subst hz; exact hs, by rw [List.take_append_of_le_length h.kept]; exact h.sync, by rw [catF_snoc, ← h.all, ByteArray.append_assoc]⟩
theorem Wrote.synced {l : List ByteArray} {m : Nat} {x y : ByteArray} (h : Wrote l m x y) : Wrote l l.length (x ++ y) ⟨#[]⟩ :=
  ⟨h.few, Nat.le_refl _, h.short, by rw [List.take_length]; exact h.all, by rw [h.all, show (⟨#[]⟩ : ByteArray) = ByteArray.empty from rfl, ByteArray.append_empty]⟩

/-- Which frames are left whole. -/
def WholeB (l : List ByteArray) (E : Nat) (torn : Bool) (keep : Nat) (j : Nat) : Prop := catZ l (j + 1) < E ∨ (catZ l (j + 1) = E ∧ (torn = false ∨ keep = 0))

theorem whole_down {l : List ByteArray} {E : Nat} {torn : Bool} {keep i j : Nat} (h : WholeB l E torn keep j) (hij : i < j) (hj : j < l.length) : WholeB l E torn keep i := by
  have := catZ_lt (l := l) (show i + 1 < j + 1 by omega) (by omega)
  rcases h with h | h
  · exact Or.inl (by omega)
  · exact Or.inl (by omega)

/-- The law's heart: the frames read of the fallen disk are the whole ones, and the synced ones are among them. -/
theorem fall_law {l : List ByteArray} {m W keep : Nat} {x y : ByteArray} {torn : Bool} (h : Wrote l m x y) (hk : keep ≤ y.size) (hW : W ≤ l.length) (hc : ∀ j, j < l.length → (WholeB l (x.size + keep) torn keep j ↔ j < W)) :
    m ≤ W ∧ (framesF ((x ++ ⟨(fallL y keep torn).toArray⟩).size + 1) (x ++ ⟨(fallL y keep torn).toArray⟩) 0).1 = l.take W := by
  have hs100 : ∀ s ∈ l, s.size ≤ 100 := fun s hs => by have := h.short s hs; omega
  have hxm : x.size = catZ l m := by rw [h.sync]; rfl
  have hall : bl (catF l) = bl x ++ bl y := by rw [← h.all, bl_app]
  have hsz : (catF l).size = x.size + y.size := by rw [← h.all, ByteArray.size_append]
  have hylen : (bl y).length = y.size := bl_len y
  refine ⟨?_, ?_⟩
  · rcases Nat.lt_or_ge W m with hlt | hge
    · have h1 := (hc W (by have := h.kept; omega)).1
      have h2 : WholeB l (x.size + keep) torn keep W := by
        have h3 := catZ_mono (l := l) (show W + 1 ≤ m by omega) h.kept
        rcases Nat.lt_or_ge (catZ l (W + 1)) (x.size + keep) with h4 | h4
        · exact Or.inl h4
        · exact Or.inr ⟨by omega, Or.inr (by omega)⟩
      have := h1 h2
      omega
    · exact hge
  · have fin : ∀ (E : Nat) (b : UInt8) (t : Bool), E + (if t = true then 1 else 0) = x.size + keep → bl (x ++ ⟨(fallL y keep torn).toArray⟩) = (bl (catF l)).take E ++ (if t = true then [b] else []) → (t = true → b = UInt8.ofNat (255 - ((bl (catF l)).getD E 0).toNat)) →
        (∀ j, j < l.length → (catZ l (j + 1) ≤ E ↔ WholeB l (x.size + keep) torn keep j)) → (framesF ((x ++ ⟨(fallL y keep torn).toArray⟩).size + 1) (x ++ ⟨(fallL y keep torn).toArray⟩) 0).1 = l.take W := by
      intro E b t hE hB hb hcE
      have hlen : (x ++ ⟨(fallL y keep torn).toArray⟩).size = x.size + keep := by
        rw [← bl_len, hB, List.length_append, List.length_take, bl_len, hsz]
        cases t <;> simp at hE ⊢ <;> omega
      have hWE : W ≤ x.size + keep := by
        cases W with
        | zero => omega
        | succ W =>
          have h1 := (hcE W (by omega)).2 ((hc W (by omega)).2 (by omega))
          have h2 : ∀ j, j ≤ l.length → j ≤ catZ l j := fun j => by
            induction j with
            | zero => intro _; omega
            | succ j ih => intro hj; have := ih (by omega); have := catZ_lt (l := l) (show j < j + 1 by omega) hj; omega
          have := h2 (W + 1) hW
          cases t <;> simp at hE <;> omega
      have := frames_fall hs100 (B := x ++ ⟨(fallL y keep torn).toArray⟩) (E := E) (W := W) (b := b) t (by rw [hE, hsz]; omega) hB hb hW (fun j hj => (hcE j hj).trans (hc j hj)) W 0
      have h0 : catZ l 0 = 0 := rfl
      rw [h0] at this
      rw [hlen, this (x.size + keep + 1) (by omega) (by omega) (by omega), List.drop_zero]
    have hxl : (bl x).length = x.size := bl_len x
    by_cases hc1 : torn = true ∧ 0 < keep
    · have hf : fallL y keep torn = (bl y).take (keep - 1) ++ [UInt8.ofNat (255 - ((bl y).getD (keep - 1) 0).toNat)] := by unfold fallL; rw [if_pos hc1]
      refine fin (x.size + (keep - 1)) (UInt8.ofNat (255 - ((bl y).getD (keep - 1) 0).toNat)) true (by simp; omega) ?_ (fun _ => ?_) (fun j hj => ?_)
      · rw [bl_app, hall, hf, List.take_append, hxl, List.take_of_length_le (l := bl x) (by omega), Nat.add_sub_cancel_left, List.append_assoc]
        simp
      · rw [hall]
        simp only [List.getD_eq_getElem?_getD]
        rw [List.getElem?_append_right (by omega), hxl, Nat.add_sub_cancel_left]
      · unfold WholeB
        rw [hc1.1]
        constructor
        · intro h1; exact Or.inl (by omega)
        · rintro (h1 | ⟨_, h1⟩)
          · omega
          · rcases h1 with h1 | h1
            · cases h1
            · omega
    · have hf : fallL y keep torn = (bl y).take keep := by unfold fallL; rw [if_neg hc1]
      have hc2 : torn = false ∨ keep = 0 := by
        cases torn
        · exact Or.inl rfl
        · exact Or.inr (by simp at hc1; omega)
      refine fin (x.size + keep) 0 false (by simp) ?_ (fun h => by cases h) (fun j hj => ?_)
      · rw [bl_app, hall, hf, List.take_append, hxl, List.take_of_length_le (l := bl x) (by omega), Nat.add_sub_cancel_left]
        simp
      · unfold WholeB
        constructor
        · intro h1
          rcases Nat.lt_or_ge (catZ l (j + 1)) (x.size + keep) with h2 | h2
          · exact Or.inl h2
          · exact Or.inr ⟨by omega, hc2⟩
        · rintro (h1 | ⟨h1, _⟩) <;> omega

theorem cell_from0 {W w' : World} {B b i : Nat} {u : Value} (hb : Below B W w') (h : b < B) (hc : W.cell? ⟨b, i, none⟩ = some u) : w'.cell? ⟨b, i, none⟩ = some u := (hb.cell (p := ⟨b, i, none⟩) h).trans hc
theorem free_from0 {W w' : World} {B b i : Nat} (hb : Below B W w') (h : b < B) (hc : W.frozen? ⟨b, i, none⟩ = false) : w'.frozen? ⟨b, i, none⟩ = false := (hb.frozen (p := ⟨b, i, none⟩) h).trans hc

theorem row0 {w0 : World} {e : TypeId} {size H base : Nat} (hH : w0.heap.size = H) (hb : base ≤ H) : (w0.alloc (.cells #[] e)).ownsRow base e size (.slice (some ⟨H, 0, none⟩) 0 0) 0 [] := by
  subst hH
  exact World.ownsRow_made _ _ _ hb (Nat.zero_le _) (by simp)

theorem ownsRow_keep {w w' : World} {base size n : Nat} {e : TypeId} {v : Value} {xs : List Value} (ho : w.ownsRow base e size v n xs) (k : Keep base w w') : w'.ownsRow base e size v n xs := by
  refine ⟨ho.1, ?_⟩
  rcases ho.2 with h0 | ⟨g, cap, cur, hv, hg, hgb, rest⟩
  · exact Or.inl h0
  · exact Or.inr ⟨g, cap, cur, hv, hg, (k.block g hg (Array.getElem?_eq_some_iff.1 hgb).1).trans hgb, rest⟩

/-- Rows of two types lie apart. -/
theorem rows_apart {w : World} {b1 b2 s1 s2 n1 n2 : Nat} {e1 e2 : TypeId} {v1 v2 : Value} {x1 x2 : List Value} (h1 : w.ownsRow b1 e1 s1 v1 n1 x1) (h2 : w.ownsRow b2 e2 s2 v2 n2 x2) (he : e1 ≠ e2) (k : Nat) (hk : v1.ownBlock = some k) : v2.ownBlock ≠ some k := by
  intro hk2
  rcases h1.2 with ⟨rfl, _⟩ | ⟨g, cap, cur, rfl, hg, hgb, _⟩
  · cases hk
  · rcases h2.2 with ⟨rfl, _⟩ | ⟨g2, cap2, cur2, rfl, hg2, hgb2, _⟩
    · cases hk2
    · simp only [Value.ownBlock, Option.some.injEq] at hk hk2
      subst hk hk2
      rw [hgb] at hgb2
      injection hgb2 with hgb2
      injection hgb2 with _ h _
      exact he h

theorem row_kept {w w' : World} {b2 s2 n2 : Nat} {e2 : TypeId} {v1 v2 : Value} {x2 : List Value} (h2 : w.ownsRow b2 e2 s2 v2 n2 x2) (hg : w.grownBy w' v1.ownBlock) (hd : ∀ k, v1.ownBlock = some k → v2.ownBlock ≠ some k) : w'.ownsRow b2 e2 s2 v2 n2 x2 :=
  h2.kept hg (by
    cases h : v2.ownBlock with
    | none => exact .inl rfl
    | some k => exact .inr fun e => hd k e.symm h)

end Go.Proofs.Ytkiebgmcjkfpaaa
