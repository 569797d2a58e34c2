/- slices.Insert at Write. -/
import Derived.Test.YtkcidneefdaaiaaPartIns
import Derived.Test.YtkcidneefdaaiaaRepeat
import Derived.Lib.AppendZerosOnto
import Derived.Lib.AppendZeros
import Derived.Lib.Overlaps
import Derived.Maps.AppendAt
import Derived.Deep.RegionLaw
namespace Go.Proofs.Ytkcidneefdaaiaa
open Go.RowKit

/-- What an insertion gives: a row of the call's own with one element more, in place or anew. -/
def InsPost (w : World) (base : Nat) (e : TypeId) (sz : Nat) (v : Value) (n i : Nat) (cells cs : List Value) (en : Ending) (w' : World) : Prop :=
  ∃ v', en = .returned v' ∧ w'.ownsRow base e sz v' (n + 1) (cells.take (i * sz) ++ (cs ++ cells.drop (i * sz))) ∧ w.grownBy w' v.ownBlock ∧ (v'.ownBlock = v.ownBlock ∨ ∀ b, v'.ownBlock = some b → w.heap.size ≤ b)

section
variable {P : Program}
theorem step_copy_eq {ops : Array Oper} {o : Oper} {a : Act} {w : World} {K : Act → World → Prop} {Q : Exit → Act → World → Prop} {E : Prop} (hgd : o.guard = none) (d s : Operand) (dT sT : TypeId)
    (ho : o.op = .call { callee := .builtin .copy, args := #[d, s], argTypes := #[dT, sT] }) (v u : Value) (hd : a.eval d = v) (hs : a.eval s = u) {r : Value} {w' : World}
    (hrun : (Builtin.copy_ #[dT, sT] o.type #[v, u]).run P w = .ok r w') (h : K (a.put o.dst r) w') : if Region.wanted o (yielded ops a.tmps) = true then Oper.wp P o a w K Q else E := by
  have hw : Region.wanted o (yielded ops a.tmps) = true := by simp [Region.wanted, hgd]
  rw [if_pos hw]
  unfold Oper.wp
  simp [execOp, ho, resolve, invoke, builtin, hd, hs, hrun, Result.andThen]
  exact h
theorem wpList_copy_eq (w : World) {ops : Array Oper} {rest : List Oper} {o : Oper} {a : Act} {Q : Exit → Act → World → Prop} (hgd : o.guard = none) (d s : Operand) (dT sT : TypeId)
    (ho : o.op = .call { callee := .builtin .copy, args := #[d, s], argTypes := #[dT, sT] }) (v u : Value) (hd : a.eval d = v) (hs : a.eval s = u) {r : Value} {w' : World}
    (hrun : (Builtin.copy_ #[dT, sT] o.type #[v, u]).run P w = .ok r w') (h : wpList P ops Q rest (a.put o.dst r) w') : wpList P ops Q (o :: rest) a w := by
  refine wpList_plain hgd fun K hK' => ?_
  unfold Oper.wp
  simp [execOp, ho, resolve, invoke, builtin, hd, hs, hrun, Result.andThen]
  exact hK' _ _ h
end

theorem Try_infoI_Write : (Try.prog.info? 45).map (fun i => (i.zero, i.size, i.bytes)) = some (some (.agg #[.string ⟨#[]⟩, .string ⟨#[]⟩, .bool false]), 3, 40) := by kernel_rfl

set_option maxRecDepth 100000 in
set_option maxHeartbeats 6400000 in
/-- There is room, in the middle. -/
theorem insW_room (g cap n i : Nat) (cells : List Value) (a b d : Value) (H : Nat) (base : Nat) (w : World) (hown : w.ownsRow base 45 3 (.slice (some ⟨g, 0, none⟩) n cap) n cells) (hi : i < n) (hn : n ≤ 2097152) (hr : n + 1 ≤ cap)
    (hH : w.heap[H]? = some (.cells #[a, b, d] 45 (0, 0))) (hHg : H ≠ g) (h1 : ∀ u ∈ [a, b, d], u.oneCell' = true) (hc1 : ∀ u ∈ cells, u.oneCell' = true) :
    Calls Try.prog 71 #[.slice (some ⟨g, 0, none⟩) n cap, .int .i64 (i : Int), .slice (some ⟨H, 0, none⟩) 1 1] w (InsPost w base 45 3 (.slice (some ⟨g, 0, none⟩) n cap) n i cells [a, b, d]) := by
  obtain ⟨i0, hi0, hz0, hz1, hz2⟩ := info_parts Try_infoI_Write
  have hsz : (Try.prog.info? 45).map (·.size) = some 3 := by rw [hi0]; simp [hz1]
  obtain ⟨_, cur, hgb, hc1', hc2', hc3', _, hsome, hfree⟩ := own_some hown
  have hne : ¬ ((i : Int) = (n : Int)) := by omega
  have hciN : ¬ (cap = i) := by omega
  have hciN1 : ¬ (cap = i + 1) := by omega
  have htn : ((i : Int) + 1).toNat = i + 1 := by omega
  have hb1 : (0 : Int) ≤ (i : Int) + 1 := by omega
  have hw1 : IntKind.i64.wrap ((i : Int) + 1) = (i : Int) + 1 := by rw [IntKind.wrap_i64]; omega
  have hb3 : (i : Int) ≤ (n : Int) := by omega
  have hb4 : (i : Int) ≤ (n : Int) + 1 := by omega
  have hcI : (n : Int) + 1 ≤ (cap : Int) := by omega
  have hcl : cells.length = n * 3 := hown.1
  have hcap : (n + 1) * 3 ≤ cap * 3 := Nat.mul_le_mul_right _ hr
  have hsA : w.shape? H = some (45, 3) := by simp [World.shape?, hH]
  have hsB : w.shape? g = some (45, cur.size) := by simp [World.shape?, hgb]
  have hov : ∀ lb cb, (callFunc 87 #[.slice (some ⟨H, 0, none⟩) 1 1, .slice (some ⟨g, (i + 1) * 3, none⟩) lb cb]).run Try.prog w = .ok (.value (.bool false)) w := fun lb cb => by
    rw [run_callFunc_extern Try.func87 (by kernel_rfl) (by kernel_rfl) (by kernel_rfl) (e := Extern.SlicesOverlaps.overlaps #[24, 24] #[4]) (by kernel_rfl),
      Lib.run_overlaps_apart w 24 4 45 Try.underlying24 3 Try.sizeOf45 ⟨H, 0, none⟩ ⟨g, (i + 1) * 3, none⟩ 1 1 lb cb hHg 45 45 3 cur.size hsA hsB (by omega) (by simp [World.frozen?, hH]) (by simp [World.frozen?, hH])]
    rfl
  obtain ⟨o2, k2, o1⟩ := own_shift (w := w.drew) (i := i) (cs := [a, b, d]) hown hi hr rfl
  obtain ⟨_, cur1, _, _, _, _, _, hsome1, hfree1⟩ := own_some o1
  have hcp1 : ∀ ty dc sc, (Builtin.copy_ #[24, 24] ty #[.slice (some ⟨g, (i + 1) * 3, none⟩) (n - i) dc, .slice (some ⟨g, i * 3, none⟩) (n + 1 - i) sc]).run Try.prog w.drew = .ok (goInt ((n - i : Nat) : Int)) (w.drew.setCells g ((i + 1) * 3) (cells.drop (i * 3))) := fun ty dc sc =>
    run_copy_wide w.drew _ _ ty 45 g ((i + 1) * 3) (n - i) dc ⟨g, i * 3, none⟩ (n + 1 - i) sc 3 (n - i) (cells.drop (i * 3)) Try.underlying24 hsz (Nat.min_eq_right (by omega)) (by rw [List.length_drop]; omega)
      (fun j u hj => by
        rw [List.getElem?_drop] at hj
        have := hown.cells rfl _ _ hj
        rw [WideShapes.add_plain] at this ⊢
        simpa using this)
      (fun j hj => by rw [List.length_drop] at hj; exact hsome _ (by omega)) (fun j _ => hfree _) (fun u hu => hc1 u (List.mem_of_mem_drop hu))
  obtain ⟨W1, hW1⟩ : ∃ W1, w.drew.setCells g ((i + 1) * 3) (cells.drop (i * 3)) = W1 := ⟨_, rfl⟩
  have hHW : W1.heap[H]? = some (.cells #[a, b, d] 45 (0, 0)) := by rw [← hW1]; exact ((grown_setCells g (cells.drop (i * 3)) ((i + 1) * 3) w.drew).block H (Array.getElem?_eq_some_iff.1 hH).1 (fun e => hHg (by injection e))).trans hH
  rw [hW1] at hcp1 o1 o2 k2 hsome1 hfree1
  have hcp2 : ∀ ty dc, (Builtin.copy_ #[24, 24] ty #[.slice (some ⟨g, i * 3, none⟩) (n + 1 - i) dc, .slice (some ⟨H, 0, none⟩) 1 1]).run Try.prog W1 = .ok (goInt ((1 : Nat) : Int)) (W1.setCells g (i * 3) [a, b, d]) := fun ty dc =>
    run_copy_wide W1 _ _ ty 45 g (i * 3) (n + 1 - i) dc ⟨H, 0, none⟩ 1 1 3 1 [a, b, d] Try.underlying24 hsz (Nat.min_eq_left (by omega)) rfl
      (fun j u hj => by rw [WideShapes.add_plain]; simp only [World.cell?, hHW, Nat.zero_add]; simpa using hj)
      (fun j hj => hsome1 _ (by simp only [List.length_cons, List.length_nil] at hj; omega)) (fun j _ => hfree1 _) h1
  have O2 := Lib.hid o2
  have K2 : Hid (w.grownBy (W1.setCells g (i * 3) [a, b, d]) (some g)) := Lib.hid ⟨k2.os, k2.tape, k2.output, k2.size, k2.block⟩
  clear o2 k2 o1 hsome hfree hsome1 hfree1 hown hgb hH hHW hsA hsB hcap hcl
  go_enter Try.func71, Try.ntmps71
  go_wp2_with (simp only [hov])
  go_region_law (refine step_copy_eq rfl _ _ 24 24 rfl _ _ (by simp [Act.eval, Act.put]) (by simp [Act.eval, Act.put]) (hcp1 _ _ _) ?_)
  go_wp2_with (at_builtin; refine wpList_copy_eq _ rfl _ _ 24 24 rfl _ _ rfl rfl (hcp2 _ _) ?_)
  go_ret
  exact ⟨_, rfl, O2.out, K2.out, Or.inl rfl⟩

theorem own_fresh {w : World} {base : Nat} {e : TypeId} {sz m G : Nat} (row : Array Value) (hb : base ≤ w.heap.size) (hm : m ≤ G) (hG : G ≤ maxLen) (hs : row.size = G * sz) :
    (w.alloc (.cells row e)).ownsRow base e sz (.slice (some ⟨w.heap.size, 0, none⟩) m G) m (row.toList.take (m * sz)) := by
  have hmul : m * sz ≤ G * sz := Nat.mul_le_mul_right _ hm
  refine ⟨by rw [List.length_take, Array.length_toList]; omega, Or.inr ⟨w.heap.size, G, row, rfl, hb, ?_, hm, hG, hs, rfl⟩⟩
  show (w.heap.push _)[w.heap.size]? = _
  simp

set_option maxRecDepth 100000 in
set_option maxHeartbeats 6400000 in
/-- No room, in the middle. -/
theorem insW_grow (g n i : Nat) (cells : List Value) (a b d : Value) (H : Nat) (base : Nat) (w : World) (hown : w.ownsRow base 45 3 (.slice (some ⟨g, 0, none⟩) n n) n cells) (hi : i < n) (hn : n ≤ 2097152) (hbase : base ≤ w.heap.size)
    (hH : w.heap[H]? = some (.cells #[a, b, d] 45 (0, 0))) (h1 : ∀ u ∈ [a, b, d], u.oneCell' = true) (hc1 : ∀ u ∈ cells, u.oneCell' = true) :
    Calls Try.prog 71 #[.slice (some ⟨g, 0, none⟩) n n, .int .i64 (i : Int), .slice (some ⟨H, 0, none⟩) 1 1] w (InsPost w base 45 3 (.slice (some ⟨g, 0, none⟩) n n) n i cells [a, b, d]) := by
  obtain ⟨i0, hi0, hz0, hz1, hz2⟩ := info_parts Try_infoI_Write
  have hsz : (Try.prog.info? 45).map (·.size) = some 3 := by rw [hi0]; simp [hz1]
  obtain ⟨_, cur, hgb, hc1', hc2', hc3', _, hsome, hfree⟩ := own_some hown
  have hcl : cells.length = n * 3 := hown.1
  have hne : ¬ ((i : Int) = (n : Int)) := by omega
  have hnc : (n : Int) < (n : Int) + 1 := by omega
  have hgl : g < w.heap.size := (Array.getElem?_eq_some_iff.1 hgb).1
  have hHl : H < w.heap.size := (Array.getElem?_eq_some_iff.1 hH).1
  have hkk : (n : Int) + 1 - (i : Int) = ((n + 1 - i : Nat) : Int) := by omega
  have hik : i + (n + 1 - i) = n + 1 := by omega
  have hold : (Builtin.firstCells i0.size i (.slice (some ⟨g, 0, none⟩) i n)).run Try.prog w.drew = .ok (cells.take (i * 3)).toArray w.drew := by
    rw [hz1]
    exact run_firstCells_some w.drew 3 i ⟨g, 0, none⟩ i n (cells.take (i * 3)) (by rw [List.length_take]; omega) (fun j u hj => by
      rw [List.getElem?_take] at hj
      split at hj
      · exact hown.cells rfl _ _ hj
      · cases hj)
  obtain ⟨G, hG⟩ : ∃ G, grownCap w (n + 1) n 45 = G := ⟨_, rfl⟩
  have hGn : n + 1 ≤ G := by rw [← hG]; exact grownCap_ge w _ _ _
  have hGm : G ≤ maxLen := by rw [← hG]; exact grownCap_le_maxLen w _ _ _ (by unfold maxLen; omega)
  obtain ⟨ROW, hROW⟩ : ∃ ROW : Array Value, (cells.take (i * 3)).toArray ++ Builtin.zeroCells (Value.cells (.agg #[.string ⟨#[]⟩, .string ⟨#[]⟩, .bool false])) (n + 1 - i) ++ Builtin.zeroCells (Value.cells (.agg #[.string ⟨#[]⟩, .string ⟨#[]⟩, .bool false])) (G - (n + 1)) = ROW := ⟨_, rfl⟩
  have hzc : (Value.cells (.agg #[.string ⟨#[]⟩, .string ⟨#[]⟩, .bool false])).size = 3 := rfl
  have hrz : ∀ ty, (Builtin.append_ #[24, 3] ty #[.slice (some ⟨g, 0, none⟩) i n, .int .i64 ((n : Int) + 1 - (i : Int))]).run Try.prog w = .ok (.slice (some ⟨w.heap.size, 0, none⟩) (n + 1) G) (w.drew.alloc (.cells ROW 45)) := fun ty => by
    have h := Lib.run_append_grow_zeros w 24 3 ty 45 i0 _ .i64 .i64 Try.underlying24 Try.underlying3 hi0 hz0 (some ⟨g, 0, none⟩) i n (cells.take (i * 3)) hold (n + 1 - i) (by omega) (by omega) (by omega) (by omega) (by rw [hz2]; omega) (by rw [hz2, hik]; exact growslice_fits (by omega) (by omega))
    rw [hik, hG, hROW] at h
    rw [hkk]
    exact h
  have hRs : ROW.size = G * 3 := by
    rw [← hROW, Array.size_append, Array.size_append, size_zeroCells, size_zeroCells, hzc, List.size_toArray, List.length_take]
    omega
  have hRt : (ROW.toList.take ((n + 1) * 3)).take (i * 3) = cells.take (i * 3) := by
    rw [List.take_take, Nat.min_eq_left (by omega), ← hROW, Array.toList_append, Array.toList_append, List.append_assoc, List.take_append_of_le_length (by rw [List.length_take]; omega), List.take_take, Nat.min_self]
  have hO := own_fresh (w := w) (base := base) (e := 45) (sz := 3) ROW hbase hGn hGm hRs
  obtain ⟨o2, k2, o1⟩ := own_two (w := (w.alloc (.cells ROW 45)).drew) (i := i) (cs := [a, b, d]) hO hRt hcl (by omega) rfl
  obtain ⟨_, cur1, _, _, _, _, _, hsome1, hfree1⟩ := own_some (w := (w.alloc (.cells ROW 45)).drew) hO
  obtain ⟨_, cur2, _, _, _, _, _, hsome2, hfree2⟩ := own_some o1
  have hGle : (n + 1) * 3 ≤ G * 3 := Nat.mul_le_mul_right _ hGn
  have hcpA : ∀ ty dc, (Builtin.copy_ #[24, 24] ty #[.slice (some ⟨w.heap.size, i * 3, none⟩) (n + 1 - i) dc, .slice (some ⟨H, 0, none⟩) 1 1]).run Try.prog (w.alloc (.cells ROW 45)).drew = .ok (goInt ((1 : Nat) : Int)) ((w.alloc (.cells ROW 45)).drew.setCells w.heap.size (i * 3) [a, b, d]) := fun ty dc =>
    run_copy_wide _ _ _ ty 45 w.heap.size (i * 3) (n + 1 - i) dc ⟨H, 0, none⟩ 1 1 3 1 [a, b, d] Try.underlying24 hsz (Nat.min_eq_left (by omega)) rfl
      (fun j u hj => by
        rw [WideShapes.add_plain]
        show (w.alloc (.cells ROW 45)).cell? ⟨H, 0 + j, none⟩ = some u
        rw [cell_alloc_old hHl]
        simp only [World.cell?, hH, Nat.zero_add]
        simpa using hj)
      (fun j hj => hsome1 _ (by simp only [List.length_cons, List.length_nil] at hj; omega)) (fun j _ => hfree1 _) h1
  obtain ⟨W2, hW2⟩ : ∃ W2, (w.alloc (.cells ROW 45)).drew.setCells w.heap.size (i * 3) [a, b, d] = W2 := ⟨_, rfl⟩
  have hgW : W2.heap[g]? = w.heap[g]? := by
    rw [← hW2]
    exact ((grown_setCells w.heap.size [a, b, d] (i * 3) (w.alloc (.cells ROW 45)).drew).block g (by show g < (w.alloc _).heap.size; simp; omega) (fun e => by injection e; omega)).trans (Below.heap_alloc _ _ _ hgl)
  rw [hW2] at hcpA o1 o2 k2 hsome2 hfree2
  have hcpB : ∀ ty dc sc, (Builtin.copy_ #[24, 24] ty #[.slice (some ⟨w.heap.size, (i + 1) * 3, none⟩) (n - i) dc, .slice (some ⟨g, i * 3, none⟩) (n - i) sc]).run Try.prog W2.drew = .ok (goInt ((n - i : Nat) : Int)) (W2.drew.setCells w.heap.size ((i + 1) * 3) (cells.drop (i * 3))) := fun ty dc sc =>
    run_copy_wide W2.drew _ _ ty 45 w.heap.size ((i + 1) * 3) (n - i) dc ⟨g, i * 3, none⟩ (n - i) sc 3 (n - i) (cells.drop (i * 3)) Try.underlying24 hsz (Nat.min_self _) (by rw [List.length_drop]; omega)
      (fun j u hj => by
        rw [List.getElem?_drop] at hj
        have h3 := hown.cells rfl _ _ hj
        rw [WideShapes.add_plain] at h3 ⊢
        have h4 : W2.cell? ⟨g, i * 3 + j, none⟩ = w.cell? ⟨g, i * 3 + j, none⟩ := World.cell?_of_block (a := ⟨g, i * 3 + j, none⟩) hgW
        rw [Nat.zero_add] at h3
        exact h4.trans h3)
      (fun j hj => by rw [List.length_drop] at hj; exact hsome2 _ (by omega)) (fun j _ => hfree2 _) (fun u hu => hc1 u (List.mem_of_mem_drop hu))
  have K2 : Hid (w.grownBy (W2.drew.setCells w.heap.size ((i + 1) * 3) (cells.drop (i * 3))) (some g)) := Lib.hid (by
    have k3 : (w.alloc (.cells ROW 45)).drew.grownBy (W2.drew.setCells w.heap.size ((i + 1) * 3) (cells.drop (i * 3))) (some w.heap.size) := by
      have k4 := grown_setCells w.heap.size (cells.drop (i * 3)) ((i + 1) * 3) W2.drew
      have k5 := grown_setCells w.heap.size [a, b, d] (i * 3) (w.alloc (.cells ROW 45)).drew
      rw [hW2] at k5
      exact grownBy_trans k5 ⟨k4.os, k4.tape, k4.output, k4.size, k4.block⟩
    have hws : w.heap.size ≤ (w.alloc (.cells ROW 45)).drew.heap.size := by show w.heap.size ≤ (w.alloc _).heap.size; simp
    exact ⟨k3.os, k3.tape, k3.output, Nat.le_trans hws k3.size, fun k hk _ => (k3.block k (by omega) (fun e => by injection e; omega)).trans (Below.heap_alloc _ _ _ hk)⟩)
  have O2 : Hid ((W2.drew.setCells w.heap.size ((i + 1) * 3) (cells.drop (i * 3))).ownsRow base 45 3 (.slice (some ⟨w.heap.size, 0, none⟩) (n + 1) G) (n + 1) (cells.take (i * 3) ++ ([a, b, d] ++ cells.drop (i * 3)))) := Lib.hid (by
    obtain ⟨o3, _⟩ := own_two (w := (w.alloc (.cells ROW 45)).drew) (i := i) (cs := [a, b, d]) hO hRt hcl (by omega) rfl
    rw [hW2] at o3
    have h5 : ∀ (vs : List Value) (o : Nat) (X : World), (X.drew.setCells w.heap.size o vs).heap = (X.setCells w.heap.size o vs).heap := by
      intro vs
      induction vs with
      | nil => intro _ _; rfl
      | cons u us ih => intro o X; exact ih (o + 1) (X.setCell ⟨w.heap.size, o, none⟩ u)
    refine ⟨o3.1, ?_⟩
    rw [h5]
    exact o3.2)
  have hGi : ¬ (G = i) := by omega
  have hGim : ¬ (G = i + 1) := by omega
  have hni : ¬ (n = i) := by omega
  have hb1 : (0 : Int) ≤ (i : Int) + 1 := by omega
  have hw1 : IntKind.i64.wrap ((i : Int) + 1) = (i : Int) + 1 := by rw [IntKind.wrap_i64]; omega
  have hw2 : IntKind.i64.wrap ((n : Int) + 1 - (i : Int)) = (n : Int) + 1 - (i : Int) := by rw [IntKind.wrap_i64]; omega
  have htn : ((i : Int) + 1).toNat = i + 1 := by omega
  have hb3 : (i : Int) ≤ (n : Int) := by omega
  have hb4 : (i : Int) ≤ (n : Int) + 1 := by omega
  have hnI : (n : Int) ≤ 2097152 := by omega
  have hge : w.heap.size ≤ w.heap.size := Nat.le_refl _
  clear o2 k2 o1 hsome hfree hsome1 hfree1 hsome2 hfree2 hown hgb hH hold hROW hRs hRt hO hGle hkk hik hcl hgW
  go_enter Try.func71, Try.ntmps71
  go_wp2_with (first
    | (at_builtin; refine Lib.wpList_append_run _ rfl _ _ _ _ rfl _ _ rfl rfl _ _ (hrz _) ?_)
    | (at_builtin; refine wpList_copy_eq _ rfl _ _ 24 24 rfl _ _ rfl rfl (hcpA _ _) ?_))
  go_region_law (refine step_copy_eq rfl _ _ 24 24 rfl _ _ (by simp [Act.eval, Act.put]) (by simp [Act.eval, Act.put]) (hcpB _ _ _) ?_)
  go_wp2
  go_ret
  exact ⟨_, rfl, O2.out, K2.out, Or.inr fun b e => Nat.le_of_eq (Option.some.inj e)⟩

set_option maxRecDepth 100000 in
set_option maxHeartbeats 6400000 in
/-- At the end. -/
theorem insW_end (v : Value) (n : Nat) (cells : List Value) (a b d : Value) (H : Nat) (base : Nat) (w : World) (hown : w.ownsRow base 45 3 v n cells) (hn : n ≤ 2097152) (hbase : base ≤ w.heap.size)
    (hH : w.heap[H]? = some (.cells #[a, b, d] 45 (0, 0))) (h1 : ∀ u ∈ [a, b, d], u.oneCell' = true) :
    Calls Try.prog 71 #[v, .int .i64 (n : Int), .slice (some ⟨H, 0, none⟩) 1 1] w (InsPost w base 45 3 v n n cells [a, b, d]) := by
  obtain ⟨i0, hi0, hz0, hz1, hz2⟩ := info_parts Try_infoI_Write
  have HO := Lib.hid hown
  have Hnews : Hid (∀ j u, [a, b, d][j]? = some u → w.cell? ((⟨H, 0, none⟩ : Addr).add j) = some u) := Lib.hid (fun j u hj => by rw [WideShapes.add_plain]; simp only [World.cell?, hH, Nat.zero_add]; simpa using hj)
  have Hfin : Hid (∀ v' w', w'.ownsRow base 45 3 v' (n + 1) (cells ++ [a, b, d]) → w.grownBy w' v.ownBlock → (v'.ownBlock = v.ownBlock ∨ v'.ownBlock = some w.heap.size) → InsPost w base 45 3 v n n cells [a, b, d] (.returned v') w') := Lib.hid (fun v' w' h k hat => by
    have hcl : cells.length = n * 3 := hown.1
    refine ⟨v', rfl, ?_, k, hat.imp id fun e b hb => ?_⟩
    · rw [List.take_of_length_le (by omega), List.drop_of_length_le (by omega), List.append_nil]
      exact h
    · rw [e] at hb
      injection hb with hb
      omega)
  have hform := own_forms hown
  have hbd : Hid (n + 1 ≤ maxLen ∧ (n + 1) * 40 ≤ 140737488355328) := Lib.hid (by unfold maxLen; omega)
  have hcap : ∀ g cap, v = .slice (some ⟨g, 0, none⟩) n cap → n ≤ cap ∧ cap ≤ maxLen := fun g cap e => by
    subst e
    obtain ⟨_, _, _, h3, h4, _⟩ := own_some hown
    exact ⟨h3, h4⟩
  clear hown hH
  have hnI : (n : Int) ≤ 2097152 := by omega
  rcases hform with ⟨rfl, rfl⟩ | ⟨g, cap, rfl⟩
  · go_enter Try.func71, Try.ntmps71
    go_wp2_with (at_builtin; refine wpList_append_own_at _ rfl _ _ 24 (by rfl) base 45 i0 _ 3 40 Try.underlying24 hi0 hz0 hz1 hz2 rfl (by decide) (.slice none 0 0) 0 cells (by rfl) HO.out ⟨H, 0, none⟩ 1 1 [a, b, d] (by rfl) rfl Hnews.out h1 (by unfold maxLen; omega) (by omega) hbase ?_)
    intro v' w' ho hg _ hat
    have HF := Lib.hid (Hfin.out v' w' ho hg hat)
    clear ho hg hat
    go_wp2
    go_ret
    exact HF.out
  · obtain ⟨hnc, hcm⟩ := hcap g cap rfl
    unfold maxLen at hcm
    have hcI : (n : Int) ≤ (cap : Int) := by omega
    by_cases hce : cap = n
    · subst hce
      go_enter Try.func71, Try.ntmps71
      go_wp2_with (at_builtin; refine wpList_append_own_at _ rfl _ _ 24 (by rfl) base 45 i0 _ 3 40 Try.underlying24 hi0 hz0 hz1 hz2 rfl (by decide) _ _ cells (by rfl) HO.out ⟨H, 0, none⟩ 1 1 [a, b, d] (by rfl) rfl Hnews.out h1 hbd.out.1 hbd.out.2 hbase ?_)
      intro v' w' ho hg _ hat
      have HF := Lib.hid (Hfin.out v' w' ho hg hat)
      clear ho hg hat
      go_wp2
      go_ret
      exact HF.out
    · go_enter Try.func71, Try.ntmps71
      go_wp2_with (at_builtin; refine wpList_append_own_at _ rfl _ _ 24 (by rfl) base 45 i0 _ 3 40 Try.underlying24 hi0 hz0 hz1 hz2 rfl (by decide) _ _ cells (by rfl) HO.out ⟨H, 0, none⟩ 1 1 [a, b, d] (by rfl) rfl Hnews.out h1 hbd.out.1 hbd.out.2 hbase ?_)
      intro v' w' ho hg _ hat
      have HF := Lib.hid (Hfin.out v' w' ho hg hat)
      clear ho hg hat
      go_wp2
      go_ret
      exact HF.out

/-- Anywhere. -/
theorem insW_any (v : Value) (n i : Nat) (cells : List Value) (a b d : Value) (H : Nat) (base : Nat) (w : World) (hown : w.ownsRow base 45 3 v n cells) (hi : i ≤ n) (hn : n ≤ 2097152) (hbase : base ≤ w.heap.size)
    (hH : w.heap[H]? = some (.cells #[a, b, d] 45 (0, 0))) (hHv : some H ≠ v.ownBlock) (h1 : ∀ u ∈ [a, b, d], u.oneCell' = true) (hc1 : ∀ u ∈ cells, u.oneCell' = true) :
    Calls Try.prog 71 #[v, .int .i64 (i : Int), .slice (some ⟨H, 0, none⟩) 1 1] w (InsPost w base 45 3 v n i cells [a, b, d]) := by
  by_cases he : i = n
  · subst he
    exact insW_end v i cells a b d H base w hown hn hbase hH h1
  · rcases own_forms hown with ⟨rfl, h0⟩ | ⟨g, cap, rfl⟩
    · omega
    · obtain ⟨_, _, _, h3, _⟩ := own_some hown
      by_cases hr : n + 1 ≤ cap
      · exact insW_room g cap n i cells a b d H base w hown (by omega) hn hr hH (fun e => hHv (by rw [e]; rfl)) h1 hc1
      · obtain rfl : cap = n := by omega
        exact insW_grow g cap i cells a b d H base w hown (by omega) hn hbase hH h1 hc1

end Go.Proofs.Ytkcidneefdaaiaa
