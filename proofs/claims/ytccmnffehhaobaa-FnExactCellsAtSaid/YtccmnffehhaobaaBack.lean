/- slices.Backward over versions: its contract as an iterator, at every loop body that keeps what lay below. -/
import Derived.RangeFuncNested
import Derived.RangeFuncBound
import Derived.RangeFuncCalls
import Derived.RangeFuncBox
import Derived.RangeFuncLeaves
import Derived.Shelf.Abstract
import Derived.Shelf.RegionOpen
import Derived.OwnWalkIn
import Derived.TacticsInMore
import Derived.LoopNIn
import Derived.LoopIn
import Derived.Test.YtccmnffehhaobaaData
namespace Go.Proofs.Ytccmnffehhaobaa
open Go.RowKit Go.Shelf

attribute [local go_sem] Oper.semAt_some

/-- What has come when k rounds are over. -/
def upTo {α : Type} (f : Nat → α) (k : Nat) : List α := (List.range k).map f
theorem upTo_succ {α : Type} (f : Nat → α) (k : Nat) : upTo f (k + 1) = upTo f k ++ [f k] := by simp [upTo, List.range_succ]
theorem upTo_length {α : Type} (f : Nat → α) (k : Nat) : (upTo f k).length = k := by simp [upTo]

def verZ : VerD := ⟨0, ⟨#[]⟩, false⟩
def verV (v : VerD) : Value := .agg #[.int .i64 v.Time, .string v.Val, .bool v.Gone]
/-- The k-th of the versions from behind. -/
def fromEnd (vs : List VerD) (k : Nat) : Nat × VerD := (vs.length - 1 - k, (vs[vs.length - 1 - k]?).getD verZ)

/-- What a round keeps: what lies below N, and the block of the boxed slice. -/
def KeepB (N Bs : Nat) (A B : World) : Prop := Below N A B ∧ B.heap[Bs]? = A.heap[Bs]?
theorem keepB_refl (N Bs : Nat) (A : World) : KeepB N Bs A A := ⟨Below.refl _ _, rfl⟩
theorem KeepB.trans {N Bs : Nat} {A B C : World} (h : KeepB N Bs A B) (k : KeepB N Bs B C) : KeepB N Bs A C := ⟨h.1.trans k.1, k.2.trans h.2⟩
theorem KeepB.cell {N Bs : Nat} {A B : World} (h : KeepB N Bs A B) {p : Addr} (hp : p.block < N ∨ p.block = Bs) : B.cell? p = A.cell? p := by
  rcases hp with hp | hp
  · exact h.1.cell hp
  · exact World.cell?_of_block (by rw [hp]; exact h.2)

set_option maxRecDepth 100000 in
set_option maxHeartbeats 2000000 in
/-- The closure of slices.Backward. -/
theorem back1_in (F : Fence) (n : Nat) (hf : F.fn 249) (hro : F.round = none) (hn : 1 ≤ n) (l Bs n₀ b off cap : Nat) (vs : List VerD) (hlen : vs.length ≤ 1048576) (hb : b < n₀) (J Jx : List (Nat × VerD) → World → Prop)
    (hY : ∀ pre x W, J pre W → pre.length < vs.length → YieldAt F (n - 1) Try.prog l #[.int .i64 (x.1 : Int), verV x.2] W fun e W' =>
      (e = .returned (.bool true) ∧ J (pre ++ [x]) W' ∧ KeepB n₀ Bs W W') ∨ (e = .returned (.bool false) ∧ Jx (pre ++ [x]) W'))
    (W : World) (hBs : W.cell? ⟨Bs, 0, none⟩ = some (.slice (some ⟨b, off, none⟩) vs.length cap))
    (hc : ∀ j, (h : j < vs.length) → W.cell? ⟨b, off + j * 3, none⟩ = some (.int .i64 vs[j].Time) ∧ W.cell? ⟨b, off + j * 3 + 1, none⟩ = some (.string vs[j].Val) ∧ W.cell? ⟨b, off + j * 3 + 2, none⟩ = some (.bool vs[j].Gone)) (h0 : J [] W) :
    CallsIn F n Try.prog 249 #[.func (.yield l) #[] #[], .pointer (some ⟨Bs, 0, none⟩)] W fun e W' => (∃ v, e = .returned v) ∧
      ((∃ ys, ys = upTo (fromEnd vs) vs.length ∧ J ys W') ∨ (∃ pre, (∃ k, k ≤ vs.length ∧ pre = upTo (fromEnd vs) k) ∧ Jx pre W')) := by
  have HC := Lib.hid hc
  have HB := Lib.hid hBs
  clear hc
  obtain ⟨len, hl⟩ : ∃ len : Nat, vs.length = len := ⟨_, rfl⟩
  have HL := Lib.hid hl
  have hlI : (len : Int) ≤ 1048576 := by omega
  rw [hl] at hBs hY
  clear hl hlen
  refine callsIn_of_wp Try.func249 rfl hf ?_ hro
  simp only [Try.ntmps249, List.size_toArray, List.length_cons, List.length_nil, Nat.reduceAdd, Nat.reduceSub, Array.replicate_succ, Array.replicate_zero, List.push_toArray, List.append_toArray, List.nil_append, List.cons_append]
  gi_wp2
  gi_loopw [3] (fun i wr => ∃ r : Nat, r ≤ len ∧ i = .int .i64 ((r : Int) - 1) ∧ J (upTo (fromEnd vs) (len - r)) wr ∧ KeepB n₀ Bs W wr)
    (fun i _ => ((intOf i) + 1).toNat)
  case atStart => exact ⟨len, Nat.le_refl _, rfl, by rw [Nat.sub_self]; exact h0, keepB_refl _ _ _⟩
  case round =>
    obtain ⟨r, hr, rfl, hJs, hnx⟩ := hrel
    have hBs' : wr.cell? ⟨Bs, 0, none⟩ = some (.slice (some ⟨b, off, none⟩) len cap) := (hnx.cell (p := ⟨Bs, 0, none⟩) (Or.inr rfl)).trans (HL.out ▸ HB.out)
    clear hBs
    rcases Nat.eq_zero_or_pos r with rfl | hpos
    · gi_wp2
      go_end0
      refine ⟨⟨_, rfl⟩, .inl ⟨_, rfl, ?_⟩⟩
      rw [HL.out]
      exact hJs
    · obtain ⟨q, rfl⟩ : ∃ q, r = q + 1 := ⟨r - 1, by omega⟩
      rw [show (((q + 1 : Nat) : Int) - 1) = (q : Int) from by omega]
      have hql : q < vs.length := by have := HL.out; omega
      obtain ⟨d0, d1, d2⟩ := HC.out q hql
      have e0 := (hnx.cell (p := ⟨b, off + q * 3, none⟩) (Or.inl hb)).trans d0
      have e1 := (hnx.cell (p := ⟨b, off + q * 3 + 1, none⟩) (Or.inl hb)).trans d1
      have e2 := (hnx.cell (p := ⟨b, off + q * 3 + 2, none⟩) (Or.inl hb)).trans d2
      have hfe : Hid (fromEnd vs (len - (q + 1)) = (q, vs[q])) := Lib.hid (by
        unfold fromEnd
        rw [HL.out, show len - 1 - (len - (q + 1)) = q from by omega, List.getElem?_eq_getElem hql]; rfl)
      obtain ⟨x, ex⟩ : ∃ x, vs[q] = x := ⟨_, rfl⟩
      rw [ex] at e0 e1 e2 hfe
      clear d0 d1 d2 ex
      obtain ⟨fn, tmps, assign, body, hy, hR⟩ := hY _ (q, x) wr hJs (by rw [upTo_length]; omega)
      dsimp only [verV] at hy
      have hqI : (q : Int) < (len : Int) := by omega
      have hN : Hid (upTo (fromEnd vs) (len - (q + 1)) ++ [(q, x)] = upTo (fromEnd vs) (len - q)) := Lib.hid (by
        rw [show len - q = (len - (q + 1)) + 1 from by omega, upTo_succ, hfe.out])
      clear hql hfe
      gi_wp2
      refine hR.mono ?_
      rintro e W3 (⟨rfl, hJ3, hk3⟩ | ⟨rfl, hJx3⟩)
      · gi_wp2
        go_roundw
        case rel => exact ⟨q, by omega, rfl, by rw [← hN.out]; exact hJ3, hnx.trans hk3⟩
        case measure => simp [intOf]
      · gi_wp2
        refine bodyPost_ret (results_none rfl _ _ _) rfl ?_
        exact ⟨⟨_, rfl⟩, .inr ⟨_, ⟨len - q, by have := HL.out; omega, hN.out⟩, hJx3⟩⟩

/-- slices.Backward: the slice is boxed, and handed to the closure. -/
theorem back_in (F : Fence) (n : Nat) (hf : F.fn 214) (hro : F.round = none) (a : Option Addr) (len cap : Nat) (w : World) :
    CallsIn F n Try.prog 214 #[.slice a len cap] w fun e w' => e = .returned (.func (.func 249) #[] #[.pointer (some ⟨w.heap.size, 0, none⟩)]) ∧ w' = w.alloc (.cells #[.slice a len cap] 98) := by
  refine callsIn_of_wp Try.func214 rfl hf ?_ hro
  simp only [Try.ntmps214, List.size_toArray, List.length_cons, List.length_nil, Nat.reduceAdd, Nat.reduceSub, Array.replicate_succ, Array.replicate_zero, List.push_toArray, List.append_toArray, List.nil_append, List.cons_append]
  gi_wp2
  go_ret
  exact ⟨rfl, rfl⟩

theorem back_stops (F : Fence) (n : Nat) (hf : F.fn 249) (hro : F.round = none) (hn : 1 ≤ n) (Bs n₀ b off cap : Nat) (vs : List VerD) (hlen : vs.length ≤ 1048576) (w : World) (hb : b < n₀) (hBs0 : Bs < w.heap.size) (hn₀ : n₀ ≤ w.heap.size)
    (hBs : w.cell? ⟨Bs, 0, none⟩ = some (.slice (some ⟨b, off, none⟩) vs.length cap))
    (hc : ∀ j, (h : j < vs.length) → w.cell? ⟨b, off + j * 3, none⟩ = some (.int .i64 vs[j].Time) ∧ w.cell? ⟨b, off + j * 3 + 1, none⟩ = some (.string vs[j].Val) ∧ w.cell? ⟨b, off + j * 3 + 2, none⟩ = some (.bool vs[j].Gone)) :
    SeqStopsK F n Try.prog 249 #[.pointer (some ⟨Bs, 0, none⟩)] (fun x : Nat × VerD => #[Value.int .i64 (x.1 : Int), verV x.2]) (KeepB n₀ Bs) (fun ys => ys = upTo (fromEnd vs) vs.length)
      (fun pre => ∃ k, k ≤ vs.length ∧ pre = upTo (fromEnd vs) k) vs.length w := fun l J Jx W hW _ _ hY h0 => by
  have hW' := hW.mono hn₀
  exact back1_in F n hf hro hn l Bs n₀ b off cap vs hlen hb J Jx hY W ((hW.cell (p := ⟨Bs, 0, none⟩) hBs0).trans hBs)
    (fun j h => ⟨(hW'.cell (p := ⟨b, off + j * 3, none⟩) hb).trans (hc j h).1, (hW'.cell (p := ⟨b, off + j * 3 + 1, none⟩) hb).trans (hc j h).2.1, (hW'.cell (p := ⟨b, off + j * 3 + 2, none⟩) hb).trans (hc j h).2.2⟩) h0

end Go.Proofs.Ytccmnffehhaobaa
