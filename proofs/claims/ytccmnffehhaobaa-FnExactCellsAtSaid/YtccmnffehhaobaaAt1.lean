/- impl.Cell.at, walked. -/
import Derived.Test.YtccmnffehhaobaaBack
import Derived.Test.YtccmnffehhaobaaGCells
namespace Go.Proofs.Ytccmnffehhaobaa
open Go.RowKit Go.Shelf

attribute [local go_sem] Oper.semAt_some

/-- The last version of at most a time. -/
def verAt (t : Int) (vs : List VerD) : Option VerD := vs.reverse.find? fun v => decide (v.Time ≤ t)
def valOf : Option VerD → ByteArray
  | some v => v.Val
  | none => ⟨#[]⟩
def hasOf : Option VerD → Bool
  | some v => !v.Gone
  | none => false

theorem fromEnd_get (vs : List VerD) (k : Nat) (h : k < vs.length) : (fromEnd vs k).2 = vs.reverse[k]'(by simpa using h) := by
  unfold fromEnd
  rw [List.getElem_reverse, List.getElem?_eq_getElem (by omega)]
  rfl
theorem verAt_none {t : Int} {vs : List VerD} (h : ∀ p ∈ upTo (fromEnd vs) vs.length, t < p.2.Time) : verAt t vs = none := by
  unfold verAt
  rw [List.find?_eq_none]
  intro x hx
  obtain ⟨k, hk, rfl⟩ := List.getElem_of_mem hx
  have hkl : k < vs.length := by simpa using hk
  have := h (fromEnd vs k) (by simp only [upTo, List.mem_map, List.mem_range]; exact ⟨k, hkl, rfl⟩)
  rw [fromEnd_get vs k hkl] at this
  simp only [decide_eq_true_eq]
  omega
theorem verAt_some {t : Int} {vs : List VerD} {k : Nat} (hk : k < vs.length) (h : ∀ p ∈ upTo (fromEnd vs) k, t < p.2.Time) (hl : (fromEnd vs k).2.Time ≤ t) : verAt t vs = some (fromEnd vs k).2 := by
  unfold verAt
  rw [List.find?_eq_some_iff_getElem]
  refine ⟨by simpa using hl, k, by simpa using hk, (fromEnd_get vs k hk).symm, fun j hj => ?_⟩
  have := h (fromEnd vs j) (by simp only [upTo, List.mem_map, List.mem_range]; exact ⟨j, hj, rfl⟩)
  rw [fromEnd_get vs j (by omega)] at this
  rw [decide_eq_false (by omega)]
  rfl

/-- Each of what has come is later. -/
def AllAfter (t : Int) (pre : List (Nat × VerD)) : Prop := ∀ p ∈ pre, t < p.2.Time
theorem AllAfter.snoc {t : Int} {pre : List (Nat × VerD)} {x : Nat × VerD} (h : AllAfter t pre) (hx : t < x.2.Time) : AllAfter t (pre ++ [x]) := fun p hp =>
  (List.mem_append.1 hp).elim (h p) (fun e => by rw [List.mem_singleton.1 e]; exact hx)
/-- A box of three cells. -/
def Box3 (W : World) (B : Nat) (v : VerD) : Prop := W.cell? ⟨B, 0, none⟩ = some (.int .i64 v.Time) ∧ W.cell? ⟨B, 1, none⟩ = some (.string v.Val) ∧ W.cell? ⟨B, 2, none⟩ = some (.bool v.Gone)

set_option maxRecDepth 100000 in
set_option maxHeartbeats 3200000 in
/-- impl.Cell.at -/
theorem at_in (F : Fence) (n : Nat) (hf : ∀ k, F.fn k) (hro : F.round = none) (hn : 3 ≤ n) (key : ByteArray) (b off cap : Nat) (vs : List VerD) (hlen : vs.length ≤ 1048576) (t : Int) (w : World) (hb : b < w.heap.size)
    (hc : ∀ j, (h : j < vs.length) → w.cell? ⟨b, off + j * 3, none⟩ = some (.int .i64 vs[j].Time) ∧ w.cell? ⟨b, off + j * 3 + 1, none⟩ = some (.string vs[j].Val) ∧ w.cell? ⟨b, off + j * 3 + 2, none⟩ = some (.bool vs[j].Gone)) :
    CallsIn F n Try.prog 158 #[.agg #[.string key, .slice (some ⟨b, off, none⟩) vs.length cap], .int .i64 t] w fun e w' => e = .returned (.tuple #[.string (valOf (verAt t vs)), .bool (hasOf (verAt t vs))]) ∧ Below w.heap.size w w' := by
  have h1 : 1 ≤ n := by omega
  refine callsIn_of_wp_marks Try.func158 rfl (hf _) ?_ hro
  simp only [Try.ntmps158, List.size_toArray, List.length_cons, List.length_nil, Nat.reduceAdd, Nat.reduceSub, Array.replicate_succ, Array.replicate_zero, List.push_toArray, List.append_toArray, List.nil_append, List.cons_append]
  gi_wp2_with (gi_at_call 214; refine (back_in F (n - 1) (hf _) hro _ _ _ _).mono ?_; rintro e w' ⟨rfl, rfl⟩)
  have bT := (((Boxed.new (w.alloc (.cells #[.string key, .slice (some ⟨b, off, none⟩) vs.length cap] 100)) 3 (.int .i64 t)).alloc (.cells #[.string ⟨#[]⟩] 9)).alloc (.cells #[.bool false] 4)).alloc (.cells #[.slice (some ⟨b, off, none⟩) vs.length cap] 98)
  have bR := ((Boxed.new ((w.alloc (.cells #[.string key, .slice (some ⟨b, off, none⟩) vs.length cap] 100)).alloc (.cells #[.int .i64 t] 3)) 9 (.string ⟨#[]⟩)).alloc (.cells #[.bool false] 4)).alloc (.cells #[.slice (some ⟨b, off, none⟩) vs.length cap] 98)
  have bH := (Boxed.new (((w.alloc (.cells #[.string key, .slice (some ⟨b, off, none⟩) vs.length cap] 100)).alloc (.cells #[.int .i64 t] 3)).alloc (.cells #[.string ⟨#[]⟩] 9)) 4 (.bool false)).alloc (.cells #[.slice (some ⟨b, off, none⟩) vs.length cap] 98)
  have bN := Boxed.new ((((w.alloc (.cells #[.string key, .slice (some ⟨b, off, none⟩) vs.length cap] 100)).alloc (.cells #[.int .i64 t] 3)).alloc (.cells #[.string ⟨#[]⟩] 9)).alloc (.cells #[.bool false] 4)) 98 (.slice (some ⟨b, off, none⟩) vs.length cap)
  simp only [World.size_alloc] at bT bR bH bN
  have hB0 : Below w.heap.size w (((((w.alloc (.cells #[.string key, .slice (some ⟨b, off, none⟩) vs.length cap] 100)).alloc (.cells #[.int .i64 t] 3)).alloc (.cells #[.string ⟨#[]⟩] 9)).alloc (.cells #[.bool false] 4)).alloc (.cells #[.slice (some ⟨b, off, none⟩) vs.length cap] 98)) := by (repeat (first | (with_reducible exact Below.refl _ _) | (with_reducible refine below_setCell ?_ (by first | (simp; done) | (simp; omega) | omega)) | (with_reducible refine below_alloc _ ?_) | (with_reducible refine below_drewN ?_ _) | (with_reducible assumption) | (with_reducible refine below_after (by assumption) ?_)))
  have hsz : (((((w.alloc (.cells #[.string key, .slice (some ⟨b, off, none⟩) vs.length cap] 100)).alloc (.cells #[.int .i64 t] 3)).alloc (.cells #[.string ⟨#[]⟩] 9)).alloc (.cells #[.bool false] 4)).alloc (.cells #[.slice (some ⟨b, off, none⟩) vs.length cap] 98)).heap.size = w.heap.size + 5 := by simp
  obtain ⟨W0, hW0⟩ : ∃ W0, ((((w.alloc (.cells #[.string key, .slice (some ⟨b, off, none⟩) vs.length cap] 100)).alloc (.cells #[.int .i64 t] 3)).alloc (.cells #[.string ⟨#[]⟩] 9)).alloc (.cells #[.bool false] 4)).alloc (.cells #[.slice (some ⟨b, off, none⟩) vs.length cap] 98) = W0 := ⟨_, rfl⟩
  rw [hW0] at bT bR bH bN hB0 hsz ⊢
  clear hW0
  have hKK : ∀ (W : World) (l : Nat) (o o' : Obj), W0.heap.size ≤ l → W.heap[l]? = some o → o.isCells = false → o.isWalk = false → KeepB w.heap.size (w.heap.size + 1 + 1 + 1 + 1) W (W.putObj l o') := fun W l o o' k1 k2 k3 k4 =>
    ⟨belowK_b (w := W0) (by omega) W l o o' k1 k2 k3 k4, (grownBy_putObj' W l o').block _ (by have := (Array.getElem?_eq_some_iff.1 k2).1; omega) (fun e => by injection e; omega)⟩
  refine wpIn_rangeFunc_ownH hro h1 (gf := 249) (lb := #[.pointer (some ⟨w.heap.size + 1 + 1 + 1 + 1, 0, none⟩)]) rfl (hf _) (enters_of Try.func249 (by kernel_rfl) rfl)
    (back_stops F (n - 1) (hf _) hro (by omega) (w.heap.size + 1 + 1 + 1 + 1) w.heap.size b off cap vs hlen W0 hb (by omega) (by omega) bN.cell (fun j h => ⟨(hB0.cell (p := ⟨b, off + j * 3, none⟩) hb).trans (hc j h).1, (hB0.cell (p := ⟨b, off + j * 3 + 1, none⟩) hb).trans (hc j h).2.1, (hB0.cell (p := ⟨b, off + j * 3 + 2, none⟩) hb).trans (hc j h).2.2⟩))
    (fun h k => KeepB.trans h k) hKK (Below.refl _ _) (fun _ => rfl)
    (fun pre W => ((AllAfter t pre ∧ Boxed W (w.heap.size + 1) 3 (.int .i64 t)) ∧ ((Boxed W (w.heap.size + 1 + 1) 9 (.string ⟨#[]⟩) ∧ Boxed W (w.heap.size + 1 + 1 + 1) 4 (.bool false)) ∧ Boxed W (w.heap.size + 1 + 1 + 1 + 1) 98 (.slice (some ⟨b, off, none⟩) vs.length cap))) ∧ Below w.heap.size w W)
    (fun c pre W => (c = .ret ∧ ∃ ini last, pre = ini ++ [last] ∧ AllAfter t ini ∧ last.2.Time ≤ t ∧ W.cell? ⟨w.heap.size + 1 + 1, 0, none⟩ = some (.string last.2.Val) ∧ W.cell? ⟨w.heap.size + 1 + 1 + 1, 0, none⟩ = some (.bool !last.2.Gone)) ∧ Below w.heap.size w W)
    (OwnFrom.and (OwnFrom.and (OwnFrom.and (ownFrom_pure _ _) (Own.from (boxed_own _ _ _) _)) (OwnFrom.and (OwnFrom.and (Own.from (boxed_own _ _ _) _) (Own.from (boxed_own _ _ _) _)) (Own.from (boxed_own _ _ _) _))) (ownFrom_below (Nat.le_refl _) (by omega)))
    (fun c => OwnFrom.and (Own.from (fun s A B row hs hg hr => by obtain ⟨hc, ini, last, e1, e2, e3, e4, e5⟩ := hs; exact ⟨hc, ini, last, e1, e2, e3, cell_kept e4 hg hr, cell_kept e5 hg hr⟩) _) (ownFrom_below (Nat.le_refl _) (by omega)))
    ⟨⟨⟨(fun _ h => by cases h), bT⟩, ⟨bR, bH⟩, bN⟩, hB0⟩
    (fun x a' W => ∃ Bx, w.heap.size + 1 + 1 + 1 + 1 < Bx ∧ Box3 W Bx x.2 ∧ a' = { tmps := #[.agg #[.string key, .slice (some ⟨b, off, none⟩) vs.length cap], .int .i64 t, .pointer (some ⟨w.heap.size, 0, none⟩), .pointer (some ⟨w.heap.size + 1, 0, none⟩), .pointer (some ⟨w.heap.size + 1 + 1, 0, none⟩), .pointer (some ⟨w.heap.size + 1 + 1 + 1, 0, none⟩), undef, .pointer (some ⟨Bx, 0, none⟩),
      .pointer (some ⟨w.heap.size, 1, none⟩), .slice (some ⟨b, off, none⟩) vs.length cap, .func (.func 249) #[] #[.pointer (some ⟨w.heap.size + 1 + 1 + 1 + 1, 0, none⟩)], .int .i64 (x.1 : Int), verV x.2, undef, undef, undef, undef, undef, undef, undef, undef, undef], defers := [] })
    (fun x a' _ X Y row hs hg hr => by obtain ⟨Bx, k1, ⟨c0, c1, c2⟩, k3⟩ := hs; exact ⟨Bx, k1, ⟨cell_kept c0 hg (fun r e => (hr r e).2), cell_kept c1 hg (fun r e => (hr r e).2), cell_kept c2 hg (fun r e => (hr r e).2)⟩, k3⟩)
    ?assign ?body ?done ?stop
  case assign =>
    rintro l pre ⟨xi, ⟨xt, xv, xg⟩⟩ W K ⟨⟨⟨hp, bT1⟩, ⟨bR1, bH1⟩, bN1⟩, hB1⟩ hK
    have hlt := bN1.lt
    dsimp only [verV]
    gi_wp2
    exact hK _ _ ((KeepsOthers.alloc _ _).from _) ⟨(Below.refl _ W).alloc hB1.size _, Below.heap_alloc _ _ _ hlt⟩ ⟨⟨⟨hp, bT1.alloc _⟩, ⟨bR1.alloc _, bH1.alloc _⟩, bN1.alloc _⟩, hB1.alloc hB1.size _⟩ ⟨W.heap.size, hlt, ⟨by simp [go_sem], by simp [go_sem], by simp [go_sem]⟩, rfl⟩
  case body =>
    rintro l pre ⟨xi, ⟨xt, xv, xg⟩⟩ a' W hl ⟨r, hr⟩ ⟨⟨⟨hp, bT1⟩, ⟨bR1, bH1⟩, bN1⟩, hB1⟩ ⟨Bx, hBx, ⟨c0, c1, c2⟩, rfl⟩ hlt
    dsimp only at c0 c1 c2
    have cT := bT1.cell
    have cR := bR1.cell
    have fR := bR1.frozen
    have cH := bH1.cell
    have fH := bH1.frozen
    by_cases hx : xt ≤ t
    · gi_wp2
      gi_region
      all_goals gi_wp2
      all_goals
        exact ⟨(((KeepsOthers.setCell _ _ _).trans (KeepsOthers.setCell _ _ _)).trans (KeepsOthers.drew _)).from _,
          ⟨rfl, pre, _, rfl, hp, hx, (World.cell?_setCell_other _ _ _ _ (fun e => by injection e; omega)).trans (World.cell?_setCell_same _ _ _ cR), World.cell?_setCell_same _ _ _ ((World.cell?_setCell_other _ _ _ _ (fun e => by injection e; omega)).trans cH)⟩,
          ((hB1.setCell (p := ⟨w.heap.size + 1 + 1, 0, none⟩) (by simp only; omega) _).setCell (p := ⟨w.heap.size + 1 + 1 + 1, 0, none⟩) (by simp only; omega) _).drew⟩
    · have hx2 : t < xt := by omega
      gi_wp2
      exact ⟨KeepsFrom.refl _ _, keepB_refl _ _ _, ⟨⟨hp.snoc hx2, bT1⟩, ⟨bR1, bH1⟩, bN1⟩, hB1⟩
  case done =>
    rintro D ys W hD rfl ⟨⟨⟨hp, bT1⟩, ⟨bR1, bH1⟩, bN1⟩, hB1⟩ hK
    have cR := bR1.cell
    have fR := bR1.frozen
    have cH := bH1.cell
    have fH := bH1.frozen
    gi_wp2
    have hK' := ((KeepsOthers.setCell W ⟨w.heap.size + 1 + 1, 0, none⟩ (.string ⟨#[]⟩)).trans (KeepsOthers.setCell _ ⟨w.heap.size + 1 + 1 + 1, 0, none⟩ (.bool false))).same D _ hK rfl
    refine ⟨by simp, .inl ⟨_, _, rfl, run_takeDeferred hK', ?_⟩⟩
    have f5 : ((W.setCell ⟨w.heap.size + 1 + 1, 0, none⟩ (.string ⟨#[]⟩)).setCell ⟨w.heap.size + 1 + 1 + 1, 0, none⟩ (.bool false)).cell? ⟨w.heap.size + 1 + 1, 0, none⟩ = some (.string ⟨#[]⟩) :=
      (World.cell?_setCell_other _ _ _ _ (fun e => by injection e; omega)).trans (World.cell?_setCell_same _ _ _ cR)
    have f6 : ((W.setCell ⟨w.heap.size + 1 + 1, 0, none⟩ (.string ⟨#[]⟩)).setCell ⟨w.heap.size + 1 + 1 + 1, 0, none⟩ (.bool false)).cell? ⟨w.heap.size + 1 + 1 + 1, 0, none⟩ = some (.bool false) :=
      World.cell?_setCell_same _ _ _ ((World.cell?_setCell_other _ _ _ _ (fun e => by injection e; omega)).trans cH)
    have hc5 := cell_kept f5 (grownBy_putObj' _ D (.deferred none)) (fun r e => by cases e; exact ⟨_, hK', rfl⟩)
    have hc6 := cell_kept f6 (grownBy_putObj' _ D (.deferred none)) (fun r e => by cases e; exact ⟨_, hK', rfl⟩)
    refine ⟨.tuple #[.string ⟨#[]⟩, .bool false], ?_, by rw [verAt_none hp]; rfl, ((hB1.setCell (p := ⟨w.heap.size + 1 + 1, 0, none⟩) (by simp only; omega) _).setCell (p := ⟨w.heap.size + 1 + 1 + 1, 0, none⟩) (by simp only; omega) _).trans (belowK_b (w := w) (Nat.le_refl _) _ D _ _ (by omega) hK' rfl rfl)⟩
    simp [results, Try.f158, go_sem, hc5, hc6]
  case stop =>
    rintro D c pre W hD ⟨k, hk, rfl⟩ ⟨⟨rfl, ini, last, e1, e2, e3, cR, cH⟩, hB⟩ hK
    obtain ⟨k', rfl⟩ : ∃ k', k = k' + 1 := by
      cases k with
      | zero => simp [upTo] at e1
      | succ k' => exact ⟨k', rfl⟩
    rw [upTo_succ] at e1
    obtain ⟨rfl, e5⟩ := List.append_inj' e1 rfl
    obtain rfl : fromEnd vs k' = last := by simpa using e5
    have hv := verAt_some (by omega) e2 e3
    have Hv := Lib.hid hv
    clear hv e1 e5
    gi_wp2
    refine ⟨by simp, .inl ⟨_, _, rfl, run_takeDeferred hK, ?_⟩⟩
    have hc5 := cell_kept cR (grownBy_putObj' _ D (.deferred none)) (fun r e => by cases e; exact ⟨_, hK, rfl⟩)
    have hc6 := cell_kept cH (grownBy_putObj' _ D (.deferred none)) (fun r e => by cases e; exact ⟨_, hK, rfl⟩)
    refine ⟨.tuple #[.string (fromEnd vs k').2.Val, .bool (!(fromEnd vs k').2.Gone)], ?_, by rw [Hv.out]; rfl, hB.trans (belowK_b (w := w) (Nat.le_refl _) W D _ _ (by omega) hK rfl rfl)⟩
    simp [results, Try.f158, go_sem, hc5, hc6]

/-- impl.Cell.at -/
theorem at_any (x : CellD) (u : Value) (t : Int) (hlen : x.Vers.length ≤ 1048576) (hpos : 0 < x.Vers.length) (w : World) (r : Rd Cod.ver w u x.Vers) :
    Calls Try.prog 158 #[.agg #[.string x.Key, u], .int .i64 t] w fun e w' => e = .returned (.tuple #[.string (valOf (verAt t x.Vers)), .bool (hasOf (verAt t x.Vers))]) ∧ Below w.heap.size w w' := by
  obtain ⟨p, c, rfl, _, _, rv⟩ := r.form
  obtain ⟨b, off, rfl, hb, hc⟩ := rv hpos
  refine (callsIn_wide (n := 3)).1 (at_in _ 3 (fun _ => trivial) rfl (by decide) x.Key b off c x.Vers hlen t w hb (fun j h => ?_))
  obtain ⟨a0, a1, a2, _⟩ := at_ver (hc j h)
  exact ⟨a0, a1, a2⟩

end Go.Proofs.Ytccmnffehhaobaa
