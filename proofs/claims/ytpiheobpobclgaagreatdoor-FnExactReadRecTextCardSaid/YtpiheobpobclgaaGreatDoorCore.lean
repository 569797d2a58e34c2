/- Plain lemmas and contracts that all proofs of this seat lean on: bundle Core. -/
import Derived.Test.YtpiheobpobclgaaGreatDoorRows
import Derived.WalkKit
import Derived.ProofKit
import Derived.SizedLaws
import Derived.WalkSpells
import Derived.WalkLawsBesides
import Derived.BigQuiet
import Derived.Deep.QuietTactic
import Derived.Outline
import Derived.Deep.RegionHeld3
import Derived.Lib.Hide
import Derived.RegionTactic
import Derived.ChangeAlike
import Derived.Deep.LoopGhost
import Derived.Lib.SmallJoins
import Derived.StillTail
/- The closing of a law's row: a law that returns true and turns nothing that was there meets its statement. -/
namespace Go.Proofs.YtpiheobpobclgaaGreatDoor
open Go.ChangeShapes Go.WideShapes Go.ChangeAt Go.RowKit

theorem own : ownKnob Tryz.prog.godebug = none := by kernel_rfl
theorem laidOut : laidOutB Tryz.prog = true := by kernel_rfl

section
variable {H : Type} {enc : TypeId × Value → H} {P : Program}

/-- Every argument reads behind the call as it did before. -/
theorem trodAll_stays (hl : laidOutB P = true) {W W' : World} {sp : Nat → Bool} (hb : Below W.heap.size W W') :
    ∀ {ts : List TypeId} {vs : List Value} {ds : List (DataW H)} {ps : List MemPlace}, ts.all (fun t => P.readableRec t && decide (t < P.types.size)) = true →
      DataW.TrodAll enc P W 0 (fun _ => true) true ts vs ds ps → (∀ x ∈ ps, x.block < W.heap.size) → (∀ x ∈ ps, sp x.block = true) → DataW.TrodAll enc P W' 0 sp true ts vs ds ps
  | [], [], [], _, _, h, _, _ => h
  | [], _ :: _, _, _, _, h, _, _ => h.elim
  | [], [], _ :: _, _, _, h, _, _ => h.elim
  | _ :: _, [], _, _, _, h, _, _ => h.elim
  | _ :: _, _ :: _, [], _, _, h, _, _ => h.elim
  | t :: ts, v :: vs, d :: ds, ps, ha, h, hlt, hsp => by
    obtain ⟨p, q, hp, hq, rfl⟩ := h
    simp only [List.all_cons, Bool.and_eq_true, decide_eq_true_eq] at ha
    exact ⟨p, q, WideElems.Trod_stays hl ha.1.1 ha.1.2 hp (fun x hx => hb.same (hlt x (List.mem_append_left _ hx))) (fun x hx => hsp x (List.mem_append_left _ hx)),
      trodAll_stays hl hb ha.2 hq (fun x hx => hlt x (List.mem_append_right _ hx)) (fun x hx => hsp x (List.mem_append_right _ hx)), rfl⟩

theorem trodAll_len {w : World} {base : Nat} {sp : Nat → Bool} {held : Bool} : ∀ {ts : List TypeId} {vs : List Value} {ds : List (DataW H)} {ps : List MemPlace}, DataW.TrodAll enc P w base sp held ts vs ds ps → ds.length = ts.length
  | [], [], [], _, _ => rfl
  | [], _ :: _, _, _, h => h.elim
  | [], [], _ :: _, _, h => h.elim
  | _ :: _, [], _, _, h => h.elim
  | _ :: _, _ :: _, [], _, h => h.elim
  | _ :: _, _ :: _, _ :: _, _, h => by
    obtain ⟨p, q, _, hq, _⟩ := h
    simp only [List.length_cons, trodAll_len hq]

theorem post_of_below {f : Func} {s : ChangeSpec} {apart fresh handsOn again : Bool} {W W' : World} {args : Array Value} {v : Value} {ds gs : List (DataW H)} {before pa pv : List MemPlace}
    (hW : DataW.Whole enc P f.params.toList s.vars apart W args.toList ds gs before)
    (hres : ∀ (b : Nat) (sp : Nat → Bool) (hd : Bool), DataW.TrodAll enc P W' b sp hd f.resultTypes.toList (v.resultList f.resultTypes.size) (s.fn H (ds ++ gs)).results [])
    (hargs : ∀ sp : Nat → Bool, (∀ p ∈ before, sp p.block = true) → DataW.TrodAll enc P W' 0 sp true f.params.toList args.toList (s.fn H (ds ++ gs)).args pa)
    (hvars : ∀ sp : Nat → Bool, (∀ p ∈ before, sp p.block = true) → DataW.TrodVars enc P W' sp s.vars (s.fn H (ds ++ gs)).vars pv)
    (hps : before = pa ++ pv) (hb : Below W.heap.size W W')
    (hok : ∀ (j : Nat) (t : TypeId) (r : Value), f.resultTypes[j]? = some t → (v.resultList f.resultTypes.size)[j]? = some r → Value.okWide P W' .any 0 t r) :
    s.post enc P f apart fresh handsOn again W args v W' := by
  have hlt : ∀ p ∈ before, p.block < W.heap.size := fun p hp => hW.lt p hp
  have hold : ∀ p ∈ before, (fun b => decide (b < W.heap.size)) p.block = true := fun p hp => by simpa using hlt p hp
  refine ⟨ds, gs, before, [], pa, pv, hW, hres _ _ _, hargs _ hold, hvars _ hold, World.keptBut_mono (fun p hp => ⟨hp, ?_⟩) (hb.frame (· ∈ before)), fun _ => ?_⟩
  · rw [hps, List.mem_append] at hp
    exact Or.inr hp
  · obtain ⟨_, _, _, _, _, hz, hn⟩ := hW
    refine ⟨hok, _, _, ([] ++ pa) ++ pv, ⟨[] ++ pa, pv, trodAll_append (hargs _ (fun _ _ => rfl)) (hres _ _ _), hvars _ (fun _ _ => rfl), rfl, ?_, ?_⟩, ?_⟩
    · intro b off hp
      have hin : MemPlace.cell b off ∈ before := by rw [hps]; simpa using hp
      rw [hb.frozen (hlt _ hin)]
      exact hz b off hin
    · intro ha
      have := hn ha
      rw [hps] at this
      simpa using this
    · intro p hp _
      rw [hps]
      simpa using hp

/-- WHAT A LAW's WALK GIVES, MADE INTO THE ROW's 'post': it returned true and below the old heap nothing has turned. -/
theorem law_post {f : Func} {s : ChangeSpec} {apart : Bool} {W W' : World} {args : Array Value} {ds gs : List (DataW H)} {before : List MemPlace} {tb : TypeId} (hl : laidOutB P = true)
    (hro : f.params.toList.all (fun t => P.readableRec t && decide (t < P.types.size)) = true) (hrt : f.resultTypes = #[tb]) (htb : P.underlying tb = some .bool) (hsv : s.vars = [])
    (hfn : ∀ xs : List (DataW H), xs.length = f.params.toList.length → s.fn H xs = { results := [.lit (.bool true)], args := xs })
    (hW : DataW.Whole enc P f.params.toList s.vars apart W args.toList ds gs before) (hb : Below W.heap.size W W') :
    s.post enc P f apart true false false W args (.bool true) W' := by
  have hW' := hW
  obtain ⟨p, q, hA, hV, rfl, hfz, hnd⟩ := hW
  rw [hsv] at hV
  obtain ⟨rfl, rfl⟩ := trodVars_none hV
  have hlen := trodAll_len hA
  have hs : s.fn H (ds ++ []) = { results := [.lit (.bool true)], args := ds } := by rw [List.append_nil]; exact hfn ds hlen
  refine post_of_below (pa := p) (pv := []) hW' ?_ ?_ ?_ (by simp) hb ?_
  · intro b sp hd
    rw [hs, hrt]
    exact trodAll_mk1 (shut_bool htb _)
  · intro sp hsp
    rw [hs]
    exact trodAll_stays hl hb hro hA (fun x hx => hW'.lt x (by simpa using hx)) (fun x hx => hsp x (by simpa using hx))
  · intro sp hsp
    rw [hs, hsv]
    exact rfl
  · exact ok_one hrt rfl (okWide_bool_mk htb _)
end

/-- A call that made memory alone, behind what made memory alone. -/
theorem below_after {a b c : World} (k : Below b.heap.size b c) (h : Below a.heap.size a b) : Below a.heap.size a c := h.trans (k.mono h.size)
theorem below_alloc {a b : World} (o : Obj) (h : Below a.heap.size a b) : Below a.heap.size a (b.alloc o) := h.alloc h.size o
theorem below_setCell {a b : World} {p : Addr} {u : Value} (h : Below a.heap.size a b) (hp : a.heap.size ≤ p.block) : Below a.heap.size a (b.setCell p u) := h.setCell hp u
theorem below_link {a b b' c : World} (h : Below a.heap.size a b) (k : Below b'.heap.size b' c) (hs : Below a.heap.size b b') : Below a.heap.size a c := (h.trans hs).trans (k.mono (Nat.le_trans h.size hs.size))
theorem below_new (a : World) (o : Obj) : Below a.heap.size a (a.alloc o) := (Below.refl _ _).alloc (Nat.le_refl _) _
theorem below_start {a : World} (o : Obj) {c : World} (k : Below (a.alloc o).heap.size (a.alloc o) c) : Below a.heap.size a c := below_after k (below_new a o)

end Go.Proofs.YtpiheobpobclgaaGreatDoor


/- A region that draws its order, whose operations read old memory and whose calls make new memory alone and hand back plain values: one walk of the lexical order serves every order. -/
namespace Go.Proofs.YtpiheobpobclgaaGreatDoor
open Go.RowKit

/-- u, if below B it is as w; else w. -/
noncomputable def ext (B : Nat) (w u : World) : World := by
  classical
  exact if Below B w u then u else w

theorem ext_below (B : Nat) (w u : World) : Below B w (ext B w u) := by
  unfold ext
  split
  · assumption
  · exact Below.refl _ _

theorem ext_of_below {B : Nat} {w w' : World} (h : Below B w w') : ∃ u, w' = ext B w u := ⟨w', by unfold ext; rw [if_pos h]⟩

theorem ext_cell {B : Nat} (w u : World) (b o : Nat) (h : b < B) : (ext B w u).cell? ⟨b, o, none⟩ = w.cell? ⟨b, o, none⟩ := (ext_below B w u).cell (p := ⟨b, o, none⟩) h
theorem ext_frozen {B : Nat} (w u : World) (b o : Nat) (h : b < B) : (ext B w u).frozen? ⟨b, o, none⟩ = w.frozen? ⟨b, o, none⟩ := (ext_below B w u).frozen (p := ⟨b, o, none⟩) h
theorem ext_size (B : Nat) (w u : World) : w.heap.size ≤ (ext B w u).heap.size := (ext_below B w u).size

theorem calls_ext {P : Program} {f : FuncId} {args : Array Value} {w n : World} {B : Nat} {v : Value} (hB : B ≤ w.heap.size)
    (h : Calls P f args (ext B w n) fun e w' => e = .returned v ∧ Below (ext B w n).heap.size (ext B w n) w') :
    Calls P f args (ext B w n) fun e w'' => e = .returned v ∧ ∃ m, w'' = ext B w m :=
  h.mono fun _ _ ⟨he, hb⟩ => ⟨he, ext_of_below ((ext_below B w n).trans (hb.mono (Nat.le_trans hB (ext_size B w n))))⟩

theorem calls_ext_same {P : Program} {f : FuncId} {args : Array Value} {w n : World} {B : Nat} {v : Value}
    (h : Calls P f args (ext B w n) fun e w' => e = .returned v ∧ ext B w n = w') :
    Calls P f args (ext B w n) fun e w'' => e = .returned v ∧ ∃ m, w'' = ext B w m :=
  h.mono fun _ _ ⟨he, hb⟩ => ⟨he, n, hb.symm⟩

theorem wp_region_ext {P : Program} {id : Nat} {Q : Exit → Act → World → Prop} {a : Act} {w : World} {l : List Oper} (hm : P.follows .mixedOrders = true) (hB : Region.lexB .any l.toArray = true) (B : Nat)
    (h : wpQuiet P l.toArray (fun w' => ∃ u, w' = ext B w u) (fun a' => ∀ w', Below B w w' → Q .normal a' w') l a) : (Code.region id l.toArray true).wp P Q a w :=
  wp_region_quiet (C := fun w' => ∃ u, w' = ext B w u) hm hB (ext_of_below (Below.refl B w).drew) (by
    refine cast ?_ h
    congr 1
    funext a'
    refine propext ⟨fun k w' hw => ?_, fun k w' hw => k w' (ext_of_below hw)⟩
    obtain ⟨u, rfl⟩ := hw
    exact k _ (ext_below _ _ _))

theorem bcell {B : Nat} {W w1 : World} (hb : Below B W w1) : (∀ b o, b < B → w1.cell? ⟨b, o, none⟩ = W.cell? ⟨b, o, none⟩) ∧ (∀ b o, b < B → w1.frozen? ⟨b, o, none⟩ = W.frozen? ⟨b, o, none⟩) :=
  ⟨fun b o h => hb.cell (p := ⟨b, o, none⟩) h, fun b o h => hb.frozen (p := ⟨b, o, none⟩) h⟩

theorem cell_step {W w' : World} {b o : Nat} {v : Value} (k : Below W.heap.size W w') (h : W.cell? ⟨b, o, none⟩ = some v) : w'.cell? ⟨b, o, none⟩ = some v :=
  (k.cell (p := ⟨b, o, none⟩) (World.block_lt_of_cell? _ _ h)).trans h
theorem frozen_step {W w' : World} {b o : Nat} {v : Value} (k : Below W.heap.size W w') (h : W.cell? ⟨b, o, none⟩ = some v) (hf : W.frozen? ⟨b, o, none⟩ = false) : w'.frozen? ⟨b, o, none⟩ = false :=
  (k.frozen (p := ⟨b, o, none⟩) (World.block_lt_of_cell? _ _ h)).trans hf

theorem World.cell?_setCell_none {W : World} {a : Addr} {u : Value} (h : W.cell? a = none) : (W.setCell a u).cell? a = none := by
  unfold World.cell? at h ⊢
  simp only [World.setCell, Array.getElem?_modify]
  split at h
  · rename_i c e f hb
    simp only [hb, if_true, Option.map_some]
    by_cases hs : a.spot.isSome
    · simp [hs]
    · simp only [hs, if_false] at h ⊢
      simp at h ⊢
      omega
  · rename_i hb
    simp only [if_true]
    cases hw : W.heap[a.block]? with
    | none => rfl
    | some o =>
      cases o <;> simp_all
/-- What a cell holds, whatever it is. -/
def valAt (w : World) (b o : Nat) : Value := (w.cell? ⟨b, o, none⟩).getD undef
/-- The cell is there. -/
theorem has_of {w : World} {b o : Nat} {v : Value} (h : w.cell? ⟨b, o, none⟩ = some v) : w.cell? ⟨b, o, none⟩ = some (valAt w b o) := by rw [valAt, h]; rfl
theorem has_step {W w' : World} {b o : Nat} (k : Below W.heap.size W w') (h : W.cell? ⟨b, o, none⟩ = some (valAt W b o)) : w'.cell? ⟨b, o, none⟩ = some (valAt w' b o) := has_of (cell_step k h)
theorem has_set {W : World} {b o : Nat} {p : Addr} {u : Value} (h : W.cell? ⟨b, o, none⟩ = some (valAt W b o)) : (W.setCell p u).cell? ⟨b, o, none⟩ = some (valAt (W.setCell p u) b o) := by
  by_cases e : p = ⟨b, o, none⟩
  · subst e
    exact has_of (World.cell?_setCell_same _ _ _ h)
  · exact has_of ((World.cell?_setCell_other _ _ _ _ e).trans h)
theorem set_cell_eq {W : World} {a : Addr} {u x : Value} (h : (W.setCell a u).cell? a = some x) : (W.setCell a u).cell? a = some u := by
  cases hc : W.cell? a with
  | some y => exact World.cell?_setCell_same _ _ _ hc
  | none =>
    rw [World.cell?_setCell_none hc] at h
    cases h
theorem set2_cells {W : World} {b : Nat} {u0 u1 x0 x1 : Value} (h0 : ((W.setCell ⟨b, 0, none⟩ u0).setCell ⟨b, 1, none⟩ u1).cell? ⟨b, 0, none⟩ = some x0) (h1 : ((W.setCell ⟨b, 0, none⟩ u0).setCell ⟨b, 1, none⟩ u1).cell? ⟨b, 1, none⟩ = some x1) :
    ((W.setCell ⟨b, 0, none⟩ u0).setCell ⟨b, 1, none⟩ u1).cell? ⟨b, 0, none⟩ = some u0 ∧ ((W.setCell ⟨b, 0, none⟩ u0).setCell ⟨b, 1, none⟩ u1).cell? ⟨b, 1, none⟩ = some u1 := by
  have e : (⟨b, 1, none⟩ : Addr) ≠ ⟨b, 0, none⟩ := by simp
  refine ⟨?_, set_cell_eq h1⟩
  rw [World.cell?_setCell_other _ _ _ _ e] at h0 ⊢
  exact set_cell_eq h0
theorem cell_far {W : World} {b o : Nat} {p : Addr} {u v : Value} (h : W.cell? ⟨b, o, none⟩ = some v) (hp : p.block ≠ b) : (W.setCell p u).cell? ⟨b, o, none⟩ = some v := by
  rw [World.cell?_setCell_other _ _ _ _ (fun e => hp (by rw [e]))]; exact h
theorem frozen_set {W : World} {b o : Nat} {p : Addr} {u : Value} (h : W.frozen? ⟨b, o, none⟩ = false) : (W.setCell p u).frozen? ⟨b, o, none⟩ = false := by
  rw [World.frozen?_setCell]; exact h

theorem below_drew_step {A w : World} (h : Below A.heap.size A w) : Below A.heap.size A w.drew := h.drew
theorem below_drewN {B : Nat} {a w : World} (h : Below B a w) (n : Nat) : Below B a (w.drewN n) := ⟨h.os, h.tape, h.output, h.size, h.block⟩
end Go.Proofs.YtpiheobpobclgaaGreatDoor


/- How Go data lie in memory: a reading of cells as Lean data, with the blocks that it goes through. Plain lemmas; no program. -/
namespace Go.Proofs.YtpiheobpobclgaaGreatDoor
open Go.RowKit

/-- How data of one type lie in cells: 'rd w g x fp': in the world w the cells g 0 .. g (size - 1) hold x; fp: the blocks that the reading goes through. -/
structure Cod (α : Type) where
  size : Nat
  rd : World → (Nat → Option Value) → α → List Nat → Prop
  ext : ∀ {w : World} {g g' : Nat → Option Value} {x : α} {fp : List Nat}, (∀ j, j < size → g j = g' j) → rd w g x fp → rd w g' x fp
  frame : ∀ {w w' : World} {g : Nat → Option Value} {x : α} {fp : List Nat}, (∀ b ∈ fp, w'.heap[b]? = w.heap[b]?) → rd w g x fp → rd w' g x fp
  old : ∀ {w : World} {g : Nat → Option Value} {x : α} {fp : List Nat}, rd w g x fp → ∀ b ∈ fp, b < w.heap.size

namespace Cod

/-- A type of one cell that leads nowhere. -/
def one {α : Type} (mk : α → Value) (ok : α → Prop) : Cod α where
  size := 1
  rd _ g x fp := g 0 = some (mk x) ∧ ok x ∧ fp = []
  ext h := fun ⟨a, b, c⟩ => ⟨(h 0 (Nat.lt_succ_self 0)) ▸ a, b, c⟩
  frame _ h := h
  old := fun ⟨_, _, c⟩ b hb => by rw [c] at hb; cases hb

/-- Two, one behind the other. -/
def pair {α β : Type} (a : Cod α) (b : Cod β) : Cod (α × β) where
  size := a.size + b.size
  rd w g x fp := ∃ f1 f2, fp = f1 ++ f2 ∧ a.rd w g x.1 f1 ∧ b.rd w (fun j => g (a.size + j)) x.2 f2
  ext h := fun ⟨f1, f2, e, h1, h2⟩ => ⟨f1, f2, e, a.ext (fun j hj => h j (by omega)) h1, b.ext (fun j hj => h _ (by omega)) h2⟩
  frame h := fun ⟨f1, f2, e, h1, h2⟩ => ⟨f1, f2, e, a.frame (fun b hb => h b (by rw [e]; exact List.mem_append_left _ hb)) h1, b.frame (fun b hb => h b (by rw [e]; exact List.mem_append_right _ hb)) h2⟩
  old := fun ⟨f1, f2, e, h1, h2⟩ k hk => by
    rw [e, List.mem_append] at hk
    rcases hk with hk | hk
    · exact a.old h1 k hk
    · exact b.old h2 k hk

/-- The same cells under another name. -/
def via {α β : Type} (c : Cod α) (f : β → α) : Cod β where
  size := c.size
  rd w g y fp := c.rd w g (f y) fp
  ext := c.ext
  frame := c.frame
  old := c.old

/-- The getter at an address. -/
def _root_.Go.Proofs.YtpiheobpobclgaaGreatDoor.cellsAt (w : World) (b off : Nat) : Nat → Option Value := fun j => w.cell? ⟨b, off + j, none⟩

theorem cellsAt_of_block {w w' : World} {b : Nat} (h : w'.heap[b]? = w.heap[b]?) (off : Nat) : cellsAt w' b off = cellsAt w b off :=
  funext fun _ => World.cell?_of_block (w := w) h

/-- The elements of a row. -/
def elems {α : Type} (c : Cod α) (w : World) (b : Nat) : Nat → List α → List (List Nat) → Prop
  | _, [], [] => True
  | off, x :: xs, f :: fs => c.rd w (cellsAt w b off) x f ∧ elems c w b (off + c.size) xs fs
  | _, _, _ => False

/-- What a slice value reads as. -/
def rdS {α : Type} (c : Cod α) (w : World) (v : Value) (xs : List α) (fp : List Nat) : Prop :=
  ∃ a cap, v = .slice a xs.length cap ∧ xs.length ≤ cap ∧ cap ≤ maxLen ∧ (a = none → cap = 0) ∧
    ((xs = [] ∧ fp = []) ∨ ∃ b off fs, a = some ⟨b, off, none⟩ ∧ fp = b :: fs.flatten ∧ b < w.heap.size ∧ elems c w b off xs fs)

theorem elems_frame {α : Type} (c : Cod α) {w w' : World} {b : Nat} (hb : w'.heap[b]? = w.heap[b]?) : ∀ {off : Nat} {xs : List α} {fs : List (List Nat)}, (∀ k ∈ fs.flatten, w'.heap[k]? = w.heap[k]?) →
    elems c w b off xs fs → elems c w' b off xs fs
  | _, [], [], _, h => h
  | _, [], _ :: _, _, h => h
  | _, _ :: _, [], _, h => h
  | off, x :: xs, f :: fs, hf, ⟨h1, h2⟩ => by
    refine ⟨?_, elems_frame c hb (fun k hk => hf k (by simp only [List.flatten_cons, List.mem_append]; exact Or.inr hk)) h2⟩
    rw [cellsAt_of_block hb]
    exact c.frame (fun k hk => hf k (by simp only [List.flatten_cons, List.mem_append]; exact Or.inl hk)) h1

theorem elems_old {α : Type} (c : Cod α) {w : World} {b : Nat} : ∀ {off : Nat} {xs : List α} {fs : List (List Nat)}, elems c w b off xs fs → ∀ k ∈ fs.flatten, k < w.heap.size
  | _, [], [], _, k, hk => by cases hk
  | _, x :: xs, f :: fs, ⟨h1, h2⟩, k, hk => by
    simp only [List.flatten_cons, List.mem_append] at hk
    rcases hk with hk | hk
    · exact c.old h1 k hk
    · exact elems_old c h2 k hk

theorem elems_length {α : Type} (c : Cod α) {w : World} {b : Nat} : ∀ {off : Nat} {xs : List α} {fs : List (List Nat)}, elems c w b off xs fs → fs.length = xs.length
  | _, [], [], _ => rfl
  | _, x :: xs, f :: fs, ⟨_, h2⟩ => by simp [elems_length c h2]

theorem rdS_frame {α : Type} (c : Cod α) {w w' : World} {v : Value} {xs : List α} {fp : List Nat} (hf : ∀ k ∈ fp, w'.heap[k]? = w.heap[k]?) (h : rdS c w v xs fp) : rdS c w' v xs fp := by
  obtain ⟨a, cap, hv, h1, h2, h3, h4⟩ := h
  refine ⟨a, cap, hv, h1, h2, h3, ?_⟩
  rcases h4 with h4 | ⟨b, off, fs, ha, hfp, hb, he⟩
  · exact Or.inl h4
  · subst hfp
    have hbb := hf b List.mem_cons_self
    refine Or.inr ⟨b, off, fs, ha, rfl, ?_, elems_frame c hbb (fun k hk => hf k (List.mem_cons_of_mem _ hk)) he⟩
    have : w.heap[b]?.isSome := by simp [hb]
    rw [← hbb] at this
    simpa using this

theorem rdS_old {α : Type} (c : Cod α) {w : World} {v : Value} {xs : List α} {fp : List Nat} (h : rdS c w v xs fp) : ∀ k ∈ fp, k < w.heap.size := by
  obtain ⟨a, cap, hv, h1, h2, h3, h4⟩ := h
  rcases h4 with ⟨_, rfl⟩ | ⟨b, off, fs, ha, rfl, hb, he⟩
  · intro k hk; cases hk
  · intro k hk
    rcases List.mem_cons.1 hk with rfl | hk
    · exact hb
    · exact elems_old c he k hk

/-- A slice: one cell. -/
def slice {α : Type} (c : Cod α) : Cod (List α) where
  size := 1
  rd w g xs fp := ∃ v, g 0 = some v ∧ rdS c w v xs fp
  ext h := fun ⟨v, a, b⟩ => ⟨v, (h 0 (Nat.lt_succ_self 0)) ▸ a, b⟩
  frame hf := fun ⟨v, a, b⟩ => ⟨v, a, rdS_frame c hf b⟩
  old := fun ⟨_, _, b⟩ => rdS_old c b

/-- Element k of a row. -/
theorem elems_at {α : Type} (c : Cod α) {w : World} {b : Nat} : ∀ {off : Nat} {xs : List α} {fs : List (List Nat)}, elems c w b off xs fs → ∀ (k : Nat) (hk : k < xs.length), ∃ f, fs[k]? = some f ∧ c.rd w (cellsAt w b (off + k * c.size)) xs[k] f
  | _, x :: xs, f :: fs, ⟨h1, _⟩, 0, _ => ⟨f, rfl, by simpa using h1⟩
  | off, x :: xs, f :: fs, ⟨_, h2⟩, k + 1, hk => by
    obtain ⟨f', h, h'⟩ := elems_at c h2 k (by simpa using hk)
    refine ⟨f', by simpa using h, ?_⟩
    have e : off + c.size + k * c.size = off + (k + 1) * c.size := by rw [Nat.add_mul]; omega
    rw [e] at h'
    simpa using h'

/-- A row is what its elements are. -/
theorem elems_of {α : Type} (c : Cod α) {w : World} {b : Nat} : ∀ {off : Nat} {xs : List α} {fs : List (List Nat)}, fs.length = xs.length →
    (∀ (k : Nat) (hk : k < xs.length) (f : List Nat), fs[k]? = some f → c.rd w (cellsAt w b (off + k * c.size)) xs[k] f) → elems c w b off xs fs
  | _, [], [], _, _ => trivial
  | _, [], _ :: _, h, _ => by cases h
  | _, _ :: _, [], h, _ => by cases h
  | off, x :: xs, f :: fs, hl, h => by
    refine ⟨by have := h 0 (by simp) f rfl; simpa only [Nat.zero_mul, Nat.add_zero, List.getElem_cons_zero] using this, elems_of c (by simpa using hl) fun k hk f' hf => ?_⟩
    have := h (k + 1) (by simpa using hk) f' (by simpa using hf)
    have e : off + c.size + k * c.size = off + (k + 1) * c.size := by rw [Nat.add_mul]; omega
    rw [e]
    simpa using this

def int : Cod Int := one (fun x => .int .i64 x) (fun x => -9223372036854775808 ≤ x ∧ x ≤ 9223372036854775807)
def bool : Cod Bool := one (fun b => .bool b) (fun _ => True)
def str : Cod ByteArray := one (fun s => .string s) (fun s => s.size ≤ maxLen)

end Cod
end Go.Proofs.YtpiheobpobclgaaGreatDoor


/- The functions of spans and clocks, walked. -/
namespace Go.Proofs.YtpiheobpobclgaaGreatDoor
open Go.RowKit

def inB (n lo hi : Int) : Bool := decide (lo ≤ n) && decide (n ≤ hi)
theorem inB_iff {n lo hi : Int} : inB n lo hi = true ↔ lo ≤ n ∧ n ≤ hi := by simp [inB]
theorem inB_not {n lo hi : Int} : inB n lo hi = false ↔ ¬ (lo ≤ n ∧ n ≤ hi) := by rw [← inB_iff]; simp
def spanB (lo hi : Int) : Bool := decide (lo ≤ hi) && decide (-10 ≤ lo) && decide (hi ≤ 100010)

/-- impl.within -/
theorem within_any (n lo hi : Int) (w : World) : Calls Tryz.prog 38 #[.int .i64 n, .int .i64 lo, .int .i64 hi] w fun e w' => e = .returned (.bool (inB n lo hi)) ∧ w = w' := by
  unfold inB; by_cases h1 : lo ≤ n <;> by_cases h2 : n ≤ hi <;> (go_enter Tryz.func38, Tryz.ntmps38; go_wp2; go_ret; exact ⟨by simp [h1, h2], rfl⟩)

/-- spec.l1In -/
theorem l1In_any (n lo hi : Int) (w : World) : Calls Tryz.prog 27 #[.int .i64 n, .int .i64 lo, .int .i64 hi] w fun e w' => e = .returned (.bool (inB n lo hi)) ∧ w = w' := by
  unfold inB; by_cases h1 : lo ≤ n <;> by_cases h2 : n ≤ hi <;> (go_enter Tryz.func27, Tryz.ntmps27; go_wp2; go_ret; exact ⟨by simp [h1, h2], rfl⟩)

end Go.Proofs.YtpiheobpobclgaaGreatDoor


/- Plain: the number code, the checksum. No program. -/
namespace Go.Proofs.YtpiheobpobclgaaGreatDoor
open Go.RowKit

/-- A byte as a cell. -/
def byteV (c : UInt8) : Value := .int .u8 (c.toNat : Int)
theorem byteV_one (l : List UInt8) : ∀ u ∈ l.map byteV, u.oneCell' = true := by
  intro u hu
  obtain ⟨c, _, rfl⟩ := List.mem_map.1 hu
  rfl

theorem byteV_ofNat {n : Nat} (h : n < 256) : byteV (UInt8.ofNat n) = .int .u8 (n : Int) := by
  unfold byteV
  rw [UInt8.toNat_ofNat_of_lt' (by simpa [UInt8.size] using h)]

/-- The bytes of a number. -/
def numL (n : Nat) : List UInt8 := if n < 128 then [UInt8.ofNat n] else UInt8.ofNat (n % 128 + 128) :: numL (n / 128)
termination_by n
decreasing_by omega

theorem numL_small {n : Nat} (h : n < 128) : numL n = [UInt8.ofNat n] := by rw [numL, if_pos h]
theorem numL_big {n : Nat} (h : ¬ n < 128) : numL n = UInt8.ofNat (n % 128 + 128) :: numL (n / 128) := by rw [numL, if_neg h]

theorem numL_length (n : Nat) : (numL n).length ≤ n + 1 := by
  induction n using Nat.strongRecOn with
  | ind n ih =>
    by_cases h : n < 128
    · rw [numL_small h]; simp
    · rw [numL_big h]
      have := ih (n / 128) (by omega)
      simp only [List.length_cons]
      omega

/-- One step of the checksum. -/
def sumStep (s : Int) (c : UInt8) : Int := (31 * s + (c.toNat : Int) + 1) % 16000057
/-- The checksum. -/
def sumL (l : List UInt8) : Int := l.foldl sumStep 7

theorem sumStep_bound (s : Int) (c : UInt8) : 0 ≤ sumStep s c ∧ sumStep s c < 16000057 := by unfold sumStep; omega
theorem foldl_bound : ∀ (l : List UInt8) (s : Int), 0 ≤ s ∧ s < 16000057 → 0 ≤ l.foldl sumStep s ∧ l.foldl sumStep s < 16000057
  | [], _, h => h
  | c :: l, s, _ => foldl_bound l _ (sumStep_bound s c)
theorem sumL_bound (l : List UInt8) : 0 ≤ sumL l ∧ sumL l < 16000057 := foldl_bound l 7 (by decide)
theorem sumL_snoc (l : List UInt8) (c : UInt8) : sumL (l ++ [c]) = sumStep (sumL l) c := by simp [sumL]
theorem take_snoc (s : ByteArray) (k : Nat) (h : k < s.size) : s.data.toList.take (k + 1) = s.data.toList.take k ++ [s[k]] := by
  rw [List.take_succ_eq_append_getElem (by simpa using h)]; rfl
theorem take_all (s : ByteArray) : s.data.toList.take s.size = s.data.toList := List.take_of_length_le (by rw [Array.length_toList]; exact Nat.le_refl _)

theorem ret_bool {a b : Bool} (h : a = b) : Ending.returned (.bool a) = .returned (.bool b) := by rw [h]
theorem str_eq_iff {a b : ByteArray} : a.toList = b.toList ↔ a = b := by
  rw [ByteArray.toList_eq, ByteArray.toList_eq]
  constructor
  · intro h
    cases a; cases b
    simpa using h
  · rintro rfl; rfl
theorem str_ne {a b : ByteArray} (h : a ≠ b) : (a.toList == b.toList) = false := by
  rw [beq_eq_false_iff_ne]; exact fun e => h (str_eq_iff.1 e)
theorem ret_int {k : IntKind} {a b : Int} (h : a = b) : Ending.returned (.int k a) = .returned (.int k b) := by rw [h]
theorem ret_str {a b : ByteArray} (h : a = b) : Ending.returned (.string a) = .returned (.string b) := by rw [h]

end Go.Proofs.YtpiheobpobclgaaGreatDoor


/- append of one element to a slice of the call's own; string(b) of such a slice. Plain lemmas over any program. -/
namespace Go.Proofs.YtpiheobpobclgaaGreatDoor
open Go.RowKit

/-- 2^47 -/
def room : Nat := 140737488355328
theorem room_le {n : Nat} (h : n ≤ 1048576) {b : Nat} (hb : b ≤ 1024) : n * b ≤ room := by
  have : n * b ≤ 1048576 * 1024 := Nat.mul_le_mul h hb
  unfold room; omega
theorem le_room {n : Nat} (h : n ≤ 70368744177664) : n * 1 ≤ room := by unfold room; omega

section
variable {P : Program} {ops : Array Oper} {rest : List Oper} {o : Oper} {a : Act} {Q : Exit → Act → World → Prop}

theorem wpList_append_one (w : World) (hgd : o.guard = none) (s x : Operand) (t : TypeId) (ho : o.op = .call { callee := .builtin .append, args := #[s, x], argTypes := #[t, t] })
    (base : Nat) (e : TypeId) (i : TypeInfo) (z : Value) (size bytes : Nat) (ht : P.underlying t = some (.slice e)) (hi : P.info? e = some i) (hz : i.zero = some z)
    (hsize : i.size = size) (hby : i.bytes = bytes) (hzs : z.cells.size = size) (hsz : 0 < size) (hbp : 0 < bytes)
    (v : Value) (n : Nat) (xs : List Value) (hs : a.eval s = v) (hown : w.ownsRow base e size v n xs)
    (cs : List Value) (hcl : cs.length = size) (hx : a.eval x = .slice (some ⟨w.heap.size, 0, none⟩) 1 1) (h1 : ∀ u ∈ cs, u.oneCell' = true)
    (hbytes : (n + 1) * bytes ≤ room) (hbase : base ≤ w.heap.size)
    (h : ∀ v' w', w'.ownsRow base e size v' (n + 1) (xs ++ cs) → w.grownBy w' v.ownBlock → Below base w w' → wpList P ops Q rest (a.put o.dst v') w') :
    wpList P ops Q (o :: rest) a (w.alloc (.cells cs.toArray e)) := by
  refine wpList_append_own _ hgd s x t ho base e i z size bytes ht hi hz hsize hby hzs hsz v n xs hs (hown.alloc _) ⟨w.heap.size, 0, none⟩ 1 1 cs hx (by omega) ?_ h1 ?_ hbytes (by simp; omega) ?_
  · intro j u hj
    rw [WideShapes.add_plain, Nat.zero_add, World.cell?_alloc_mark]
    simpa using hj
  · have h2 : (n + 1) * 1 ≤ (n + 1) * bytes := Nat.mul_le_mul_left _ hbp
    have h3 : (n + 1) * bytes ≤ room := hbytes
    unfold room at h3
    unfold maxLen
    omega
  · intro v' w' hown' hg _
    have hg' : w.grownBy w' v.ownBlock := ⟨hg.os, hg.tape, hg.output, Nat.le_trans (by simp) hg.size, fun k hk hne => by
      rw [hg.block k (by simp; omega) hne]
      exact Below.heap_alloc _ _ _ hk⟩
    refine h v' w' hown' hg' (Below.grown (Below.refl _ _) hg' hbase fun k hk => (hown.lt k hk).1)
end

/-- What is owned lies at the head of a block. -/
theorem owned_at {w : World} {base : Nat} {e : TypeId} {size : Nat} {v : Value} {n : Nat} {xs : List Value} (h : w.ownsRow base e size v n xs) (hn : 0 < n) :
    ∃ g cap, v = .slice (some ⟨g, 0, none⟩) n cap ∧ base ≤ g ∧ g < w.heap.size ∧ n ≤ cap ∧ cap ≤ maxLen := by
  rcases h.2 with ⟨_, h0⟩ | ⟨g, cap, cur, rfl, hb, hg, h1, h2, _⟩
  · omega
  · exact ⟨g, cap, rfl, hb, (Array.getElem?_eq_some_iff.1 hg).1, h1, h2⟩

/-- string(b) of bytes that are owned. -/
theorem convert_owned {P : Program} {w : World} {base : Nat} {e src dst : TypeId} {v : Value} {n : Nat} {l : List UInt8} (hs : P.underlying src = some (.slice e)) (he : P.underlying e = some (.int .u8)) (hd : P.underlying dst = some .string)
    (h : w.ownsRow base e 1 v n (l.map byteV)) : (convert src dst v).run P w = .ok (.string ⟨l.toArray⟩) w := by
  have hl : n = l.length := by have := h.1; simp at this; omega
  subst hl
  rcases h.2 with ⟨rfl, h0⟩ | ⟨g, cap, cur, rfl, hb, hg, h1, h2, _⟩
  · have : l = [] := List.eq_nil_of_length_eq_zero h0
    subst this
    exact run_convert_bytes_nil w src e hs he 0 0 dst hd
  · refine run_convert_bytes_back w src dst e _ cap l hs he hd fun j hj => ?_
    refine h.cells rfl j _ ?_
    simp [byteV, List.getElem?_eq_getElem hj]

end Go.Proofs.YtpiheobpobclgaaGreatDoor


/- The checksum's and the number code's functions, walked. -/
namespace Go.Proofs.YtpiheobpobclgaaGreatDoor
open Go.RowKit

theorem Tryz_info_u8 : (Tryz.prog.info? 5).map (fun i => (i.zero, i.size, i.bytes)) = some (some (.int .u8 0), 1, 1) := by kernel_rfl

end Go.Proofs.YtpiheobpobclgaaGreatDoor


/- Texts, seals: walked. -/
namespace Go.Proofs.YtpiheobpobclgaaGreatDoor
open Go.RowKit

def numB (n : Nat) : ByteArray := ⟨(numL n).toArray⟩
theorem numB_size (n : Nat) : (numB n).size ≤ n + 1 := by
  have := numL_length n
  simpa [numB, ByteArray.size] using this
def textB (s : ByteArray) : ByteArray := numB s.size ++ s

def threeL (n : Int) : List UInt8 := [UInt8.ofNat (n.toNat / 65536), UInt8.ofNat (n.toNat / 256 % 256), UInt8.ofNat (n.toNat % 256)]
def threeB (n : Int) : ByteArray := ⟨(threeL n).toArray⟩
def sealB (s : ByteArray) : ByteArray := s ++ threeB (sumL s.data.toList)

theorem convert_three {P : Program} {src dst e : TypeId} (hs : P.underlying src = some (.slice e)) (he : P.underlying e = some (.int .u8)) (hd : P.underlying dst = some .string) (n : Int) (h0 : 0 ≤ n) (h1 : n < 16000057) (W : World) :
    (convert src dst (.slice (some ⟨W.heap.size, 0, none⟩) 3 3)).run P (W.alloc (.cells #[.int .u8 (n / 65536), .int .u8 (n / 256 % 256), .int .u8 (n % 256)] e)) =
      .ok (.string (threeB n)) (W.alloc (.cells #[.int .u8 (n / 65536), .int .u8 (n / 256 % 256), .int .u8 (n % 256)] e)) := by
  obtain ⟨m, rfl⟩ := Int.eq_ofNat_of_zero_le h0
  have e1 : byteV (UInt8.ofNat (m / 65536)) = .int .u8 ((m : Int) / 65536) := by rw [byteV_ofNat (by omega)]; simp
  have e2 : byteV (UInt8.ofNat (m / 256 % 256)) = .int .u8 ((m : Int) / 256 % 256) := by rw [byteV_ofNat (by omega)]; simp
  have e3 : byteV (UInt8.ofNat (m % 256)) = .int .u8 ((m : Int) % 256) := by rw [byteV_ofNat (by omega)]; simp
  refine run_convert_bytes_back _ src dst e _ 3 (threeL m) hs he hd fun j hj => ?_
  rw [WideShapes.add_plain, Nat.zero_add, World.cell?_alloc_mark]
  rw [← e1, ← e2, ← e3]
  match j, hj with
  | 0, _ => rfl
  | 1, _ => rfl
  | 2, _ => rfl

end Go.Proofs.YtpiheobpobclgaaGreatDoor


/- Plain: which bytes begin with the code of a number. No program. -/
namespace Go.Proofs.YtpiheobpobclgaaGreatDoor
open Go.RowKit

/-- The number that bytes say, seven bits each. -/
def decL : List UInt8 → Nat
  | [] => 0
  | b :: l => b.toNat % 128 + 128 * decL l

theorem decL_append (l m : List UInt8) : decL (l ++ m) = decL l + 128 ^ l.length * decL m := by
  induction l with
  | nil => simp [decL]
  | cons b l ih =>
    simp only [List.cons_append, decL, ih, List.length_cons, Nat.pow_succ]
    rw [Nat.mul_add, Nat.add_assoc, show 128 ^ l.length * 128 * decL m = 128 * (128 ^ l.length * decL m) from by rw [Nat.mul_comm (128 ^ l.length) 128, Nat.mul_assoc]]

theorem toNat_ofNat_lt {n : Nat} (h : n < 256) : (UInt8.ofNat n).toNat = n := UInt8.toNat_ofNat_of_lt' (by simpa [UInt8.size] using h)

theorem decL_numL (n : Nat) : decL (numL n) = n := by
  induction n using Nat.strongRecOn with
  | ind n ih =>
    by_cases h : n < 128
    · rw [numL_small h]
      simp only [decL]
      rw [toNat_ofNat_lt (by omega)]
      omega
    · rw [numL_big h]
      simp only [decL]
      rw [toNat_ofNat_lt (by omega), ih (n / 128) (by omega)]
      omega

/-- All bytes but the last go on. -/
theorem numL_shape (n : Nat) : ∃ i z, numL n = i ++ [z] ∧ (∀ b ∈ i, 128 ≤ b.toNat) ∧ z.toNat < 128 := by
  induction n using Nat.strongRecOn with
  | ind n ih =>
    by_cases h : n < 128
    · exact ⟨[], _, by rw [numL_small h]; rfl, by simp, by rw [toNat_ofNat_lt (by omega)]; exact h⟩
    · obtain ⟨i, z, h1, h2, h3⟩ := ih (n / 128) (by omega)
      refine ⟨UInt8.ofNat (n % 128 + 128) :: i, z, by rw [numL_big h, h1]; rfl, ?_, h3⟩
      intro b hb
      rcases List.mem_cons.1 hb with rfl | hb
      · rw [toNat_ofNat_lt (by omega)]; omega
      · exact h2 b hb

theorem numL_pow (n k : Nat) (h : n < 128 ^ (k + 1)) : (numL n).length ≤ k + 1 := by
  induction k generalizing n with
  | zero => rw [numL_small (by simpa using h)]; simp
  | succ k ih =>
    by_cases hs : n < 128
    · rw [numL_small hs]; simp
    · rw [numL_big hs]
      have := ih (n / 128) (by
        rw [Nat.div_lt_iff_lt_mul (by decide)]
        rw [Nat.pow_succ] at h
        exact h)
      simp only [List.length_cons]
      omega
theorem numL_five {n : Nat} (h : n ≤ 1000000000) : (numL n).length ≤ 5 := by
  have e : 128 ^ (4 + 1) = 34359738368 := by decide
  exact numL_pow n 4 (by rw [e]; omega)

/-- The bytes begin with the code of n. -/
def IsNum (l : List UInt8) (n : Nat) : Prop := n ≤ 1000000000 ∧ numL n <+: l

/-- k bytes that go on: a code goes on behind them. -/
theorem num_longer {l : List UInt8} {n k : Nat} (h : numL n <+: l) (hk : ∀ b ∈ l.take k, 128 ≤ b.toNat) (hkl : k ≤ l.length) : k < (numL n).length := by
  obtain ⟨i, z, h1, h2, h3⟩ := numL_shape n
  apply Nat.lt_of_not_le
  intro hle
  obtain ⟨r, hr⟩ := h
  have hz : z ∈ l.take k := by
    rw [← hr, List.take_append, h1]
    simp
    left
    rw [h1] at hle
    simp at hle
    rw [List.take_of_length_le (by simp; omega)]
    simp
  have := hk z hz
  omega

theorem num_exact {l : List UInt8} {n k : Nat} (h : numL n <+: l) (hk : ∀ b ∈ l.take k, 128 ≤ b.toNat) (hkl : k < l.length) (hz : l[k].toNat < 128) : numL n = l.take (k + 1) := by
  have h1 := num_longer h hk (Nat.le_of_lt hkl)
  obtain ⟨i, z, e, h2, h3⟩ := numL_shape n
  obtain ⟨r, hr⟩ := h
  have hlen : (numL n).length = k + 1 := by
    apply Nat.le_antisymm _ h1
    apply Nat.le_of_not_lt
    intro hlt
    have hi : k < i.length := by rw [e] at hlt; simp at hlt; omega
    have hm : l[k] ∈ i := by
      have : l[k] = i[k] := by
        have e2 : l = i ++ ([z] ++ r) := by rw [← hr, e]; simp
        subst e2
        rw [List.getElem_append_left hi]
      rw [this]
      exact List.getElem_mem hi
    have := h2 _ hm
    omega
  rw [← hr, ← hlen]
  simp

theorem decL_take_le (l : List UInt8) (k : Nat) : decL (l.take k) ≤ decL l := by
  have h : decL l = decL (l.take k) + 128 ^ (l.take k).length * decL (l.drop k) := by rw [← decL_append, List.take_append_drop]
  rw [h]
  exact Nat.le_add_right _ _

theorem decL_lt (l : List UInt8) : decL l < 128 ^ l.length := by
  induction l with
  | nil => simp [decL]
  | cons b l ih =>
    simp only [decL, List.length_cons, Nat.pow_succ]
    have : b.toNat % 128 < 128 := Nat.mod_lt _ (by decide)
    omega

/-- What has been read so far is no more than the number. -/
theorem num_ge {l : List UInt8} {n k : Nat} (h : numL n <+: l) (hk : k ≤ (numL n).length) : decL (l.take k) ≤ n := by
  obtain ⟨r, hr⟩ := h
  rw [← hr, List.take_append_of_le_length hk]
  have := decL_take_le (numL n) k
  rwa [decL_numL] at this

end Go.Proofs.YtpiheobpobclgaaGreatDoor


/- The readers of encodings (impl.source, spec.l1R): three cells: the bytes, the place, whether it has failed. -/
namespace Go.Proofs.YtpiheobpobclgaaGreatDoor
open Go.RowKit

/-- A reader at block g. -/
structure SrcAt (w : World) (g : Nat) (B : ByteArray) (at_ : Nat) (bad : Bool) : Prop where
  c0 : w.cell? ⟨g, 0, none⟩ = some (.string B)
  c1 : w.cell? ⟨g, 1, none⟩ = some (.int .i64 (at_ : Int))
  c2 : w.cell? ⟨g, 2, none⟩ = some (.bool bad)
  f1 : w.frozen? ⟨g, 1, none⟩ = false
  f2 : w.frozen? ⟨g, 2, none⟩ = false

theorem grown_drewN {a w : World} {r : Option Nat} (h : a.grownBy w r) (n : Nat) : a.grownBy (w.drewN n) r := ⟨h.os, h.tape, h.output, h.size, h.block⟩
theorem grown_drew {a w : World} {r : Option Nat} (h : a.grownBy w r) : a.grownBy w.drew r := ⟨h.os, h.tape, h.output, h.size, h.block⟩
theorem grown_set {a w : World} {g : Nat} (h : a.grownBy w (some g)) (o : Nat) (u : Value) : a.grownBy (w.setCell ⟨g, o, none⟩ u) (some g) :=
  ⟨h.os, h.tape, h.output, by simpa [World.setCell] using h.size, fun i hi hne => (Below.heap_setCell w ⟨g, o, none⟩ u i (by rintro rfl; exact hne rfl)).trans (h.block i hi hne)⟩
theorem grown_trans {a b c : World} {r : Option Nat} (h : a.grownBy b r) (k : b.grownBy c r) : a.grownBy c r :=
  ⟨k.os.trans h.os, k.tape.trans h.tape, k.output.trans h.output, Nat.le_trans h.size k.size, fun i hi hne => (k.block i (Nat.lt_of_lt_of_le hi h.size) hne).trans (h.block i hi hne)⟩
theorem grown_below {a b c : World} {r : Option Nat} (h : a.grownBy b r) (k : Below b.heap.size b c) : a.grownBy c r :=
  ⟨k.os.trans h.os, k.tape.trans h.tape, k.output.trans h.output, Nat.le_trans h.size k.size, fun i hi hne => (k.block i (Nat.lt_of_lt_of_le hi h.size)).trans (h.block i hi hne)⟩

theorem SrcAt.of_block {w w' : World} {g at_ : Nat} {B : ByteArray} {bad : Bool} (h : SrcAt w g B at_ bad) (e : w'.heap[g]? = w.heap[g]?) : SrcAt w' g B at_ bad :=
  ⟨(World.cell?_of_block (w := w) (a := ⟨g, 0, none⟩) e).trans h.c0, (World.cell?_of_block (w := w) (a := ⟨g, 1, none⟩) e).trans h.c1, (World.cell?_of_block (w := w) (a := ⟨g, 2, none⟩) e).trans h.c2,
    (World.frozen?_of_block (w := w) (a := ⟨g, 1, none⟩) e).trans h.f1, (World.frozen?_of_block (w := w) (a := ⟨g, 2, none⟩) e).trans h.f2⟩
theorem SrcAt.lt {w : World} {g at_ : Nat} {B : ByteArray} {bad : Bool} (h : SrcAt w g B at_ bad) : g < w.heap.size := World.block_lt_of_cell? _ _ h.c0
theorem SrcAt.below {w w' : World} {g at_ : Nat} {B : ByteArray} {bad : Bool} (h : SrcAt w g B at_ bad) (k : Below w.heap.size w w') : SrcAt w' g B at_ bad := h.of_block (k.block _ h.lt)
theorem SrcAt.drewN {w : World} {g at_ : Nat} {B : ByteArray} {bad : Bool} (h : SrcAt w g B at_ bad) (n : Nat) : SrcAt (w.drewN n) g B at_ bad := h.of_block rfl
theorem SrcAt.drew {w : World} {g at_ : Nat} {B : ByteArray} {bad : Bool} (h : SrcAt w g B at_ bad) : SrcAt w.drew g B at_ bad := h.of_block rfl
theorem SrcAt.setBad {w : World} {g at_ : Nat} {B : ByteArray} {bad : Bool} (h : SrcAt w g B at_ bad) (x : Bool) : SrcAt (w.setCell ⟨g, 2, none⟩ (.bool x)) g B at_ x :=
  ⟨by rw [World.cell?_setCell_other _ _ _ _ (by simp)]; exact h.c0, by rw [World.cell?_setCell_other _ _ _ _ (by simp)]; exact h.c1, World.cell?_setCell_same _ _ _ h.c2, by rw [World.frozen?_setCell]; exact h.f1, by rw [World.frozen?_setCell]; exact h.f2⟩
theorem SrcAt.setAt {w : World} {g at_ : Nat} {B : ByteArray} {bad : Bool} (h : SrcAt w g B at_ bad) (x : Nat) : SrcAt (w.setCell ⟨g, 1, none⟩ (.int .i64 (x : Int))) g B x bad :=
  ⟨by rw [World.cell?_setCell_other _ _ _ _ (by simp)]; exact h.c0, World.cell?_setCell_same _ _ _ h.c1, by rw [World.cell?_setCell_other _ _ _ _ (by simp)]; exact h.c2, by rw [World.frozen?_setCell]; exact h.f1, by rw [World.frozen?_setCell]; exact h.f2⟩

end Go.Proofs.YtpiheobpobclgaaGreatDoor


/- Reading a number. -/
namespace Go.Proofs.YtpiheobpobclgaaGreatDoor
open Go.RowKit

/-- What a reading of a number from the place st comes to. -/
def NumPost (B : ByteArray) (st g : Nat) (w : World) (e : Ending) (w' : World) : Prop :=
  (∃ n : Nat, IsNum (B.data.toList.drop st) n ∧ e = .returned (.int .i64 (n : Int)) ∧ SrcAt w' g B (st + (numL n).length) false ∧ w.grownBy w' (some g)) ∨
  ((∀ n, ¬ IsNum (B.data.toList.drop st) n) ∧ e = .returned (.int .i64 0) ∧ (∃ a, a ≤ B.size ∧ SrcAt w' g B a true) ∧ w.grownBy w' (some g))

/-- The same where it had failed before. -/
def BadPost (B : ByteArray) (g : Nat) (w : World) (e : Ending) (w' : World) : Prop :=
  e = .returned (.int .i64 0) ∧ (∃ a, a ≤ B.size ∧ SrcAt w' g B a true) ∧ w.grownBy w' (some g)

theorem extract_get (B : ByteArray) (a : Nat) (h : a < B.size) (h0 : 0 < (B.extract a (a + 1)).size) : (B.extract a (a + 1))[0] = B[a] := by simp [ByteArray.getElem_extract]

theorem drop_get (B : ByteArray) (st k : Nat) (h : st + k < B.size) : ∃ h2 : k < (B.data.toList.drop st).length, (B.data.toList.drop st)[k] = B[st + k] := by
  have hs : B.data.toList.length = B.size := by rw [Array.length_toList]; rfl
  refine ⟨by rw [List.length_drop]; omega, ?_⟩
  rw [List.getElem_drop, Array.getElem_toList]
  rfl

end Go.Proofs.YtpiheobpobclgaaGreatDoor


/- Reading a number, the reference's reader. -/
namespace Go.Proofs.YtpiheobpobclgaaGreatDoor
open Go.RowKit

end Go.Proofs.YtpiheobpobclgaaGreatDoor


/- ReadNum, both. -/
namespace Go.Proofs.YtpiheobpobclgaaGreatDoor
open Go.RowKit

theorem num_unique {l : List UInt8} {n m : Nat} (h : IsNum l n) (k : IsNum l m) : n = m := by
  have hp : numL n <+: numL m ∨ numL m <+: numL n := by
    rcases Nat.le_total (numL n).length (numL m).length with hl | hl
    · exact Or.inl (List.prefix_of_prefix_length_le h.2 k.2 hl)
    · exact Or.inr (List.prefix_of_prefix_length_le k.2 h.2 hl)
  have key : ∀ a b : Nat, numL a <+: numL b → a = b := fun a b hab => by
    obtain ⟨i, z, e, h2, h3⟩ := numL_shape a
    obtain ⟨r, hr⟩ := hab
    have hi : i.length < (numL b).length := by rw [← hr, e]; simp
    have ht : ∀ x ∈ (numL b).take i.length, 128 ≤ x.toNat := by
      intro x hx
      rw [← hr, e] at hx
      simp at hx
      exact h2 x hx
    have hz : (numL b)[i.length].toNat < 128 := by
      have e2 : numL b = i ++ ([z] ++ r) := by rw [← hr, e]; simp
      simp only [e2]
      rw [List.getElem_append_right (Nat.le_refl _)]
      simpa using h3
    have h4 := num_exact (List.prefix_rfl : numL b <+: numL b) ht hi hz
    have h5 : numL a = numL b := by
      have h6 : (numL b).length = i.length + 1 := by
        have := congrArg List.length h4
        rw [List.length_take, Nat.min_eq_left hi] at this
        exact this
      have h7 : r = [] := by
        have := congrArg List.length hr
        rw [e] at this
        simp at this
        exact List.eq_nil_of_length_eq_zero (by omega)
      rw [← hr, h7, List.append_nil]
    rw [← decL_numL a, ← decL_numL b, h5]
  rcases hp with hp | hp
  · exact key _ _ hp
  · exact (key _ _ hp).symm

/-- The number with which bytes begin. -/
noncomputable def numOf (l : List UInt8) : Option Nat := by
  classical
  exact if h : ∃ n, IsNum l n then some (Classical.choose h) else none
theorem numOf_some {l : List UInt8} {n : Nat} (h : IsNum l n) : numOf l = some n := by
  unfold numOf
  have hx : ∃ n, IsNum l n := ⟨n, h⟩
  rw [dif_pos hx]
  exact congrArg some (num_unique (Classical.choose_spec hx) h)
theorem numOf_none {l : List UInt8} (h : ∀ n, ¬ IsNum l n) : numOf l = none := by
  unfold numOf
  rw [dif_neg (fun ⟨n, hn⟩ => h n hn)]

def placeB (B : ByteArray) (at_ most : Int) : Bool := decide ((B.size : Int) ≤ most) && inB at_ 0 B.size

theorem src_new (w : World) (B : ByteArray) (st : Nat) (T : TypeId) : SrcAt (w.alloc (.cells #[.string B, .int .i64 (st : Int), .bool false] T)) w.heap.size B st false :=
  ⟨by simp [go_sem], by simp [go_sem], by simp [go_sem], by simp [go_sem], by simp [go_sem]⟩

/-- What ReadNum returns. -/
noncomputable def readNumR (B : ByteArray) (at_ : Int) : Int × Int × Bool :=
  match placeB B at_ 6000, numOf (B.data.toList.drop at_.toNat) with
  | true, some n => ((n : Int), at_ + (numL n).length, true)
  | _, _ => (0, 0, false)

theorem grown_new {w w' : World} {o : Obj} (k : (w.alloc o).grownBy w' (some w.heap.size)) : Below w.heap.size w w' :=
  (below_new w o).trans (Below.grown (Below.refl _ _) k (by simp) (fun b hb => by injection hb with hb; omega))

end Go.Proofs.YtpiheobpobclgaaGreatDoor


/- ReadText, both. -/
namespace Go.Proofs.YtpiheobpobclgaaGreatDoor
open Go.RowKit

/-- What a reading of a text from the place st comes to. -/
def TextPost (B : ByteArray) (st g : Nat) (w : World) (e : Ending) (w' : World) : Prop :=
  (∃ n : Nat, IsNum (B.data.toList.drop st) n ∧ n ≤ 60 ∧ st + (numL n).length + n ≤ B.size ∧ e = .returned (.string (B.extract (st + (numL n).length) (st + (numL n).length + n))) ∧ SrcAt w' g B (st + (numL n).length + n) false ∧ w.grownBy w' (some g)) ∨
  ((∀ n, IsNum (B.data.toList.drop st) n → 60 < n ∨ B.size < st + (numL n).length + n) ∧ e = .returned (.string ⟨#[]⟩) ∧ (∃ a, a ≤ B.size ∧ SrcAt w' g B a true) ∧ w.grownBy w' (some g))

theorem wrap_in {x : Int} (h0 : -9223372036854775808 ≤ x) (h1 : x ≤ 9223372036854775807) : IntKind.i64.wrap x = x := by
  simp [IntKind.wrap, IntKind.signed, IntKind.bits]
  omega

theorem num_room {B : ByteArray} {st n : Nat} (hst : st ≤ B.size) (h : IsNum (B.data.toList.drop st) n) : st + (numL n).length ≤ B.size := by
  have h2 := List.IsPrefix.length_le h.2
  have hl : (B.data.toList.drop st).length = B.size - st := by rw [List.length_drop, Array.length_toList]; rfl
  omega

/-- The text with which bytes go on at a place, and the place behind it. -/
noncomputable def textOf (B : ByteArray) (st : Nat) : Option (ByteArray × Nat) :=
  match numOf (B.data.toList.drop st) with
  | some n => bif decide (n ≤ 60) && decide (st + (numL n).length + n ≤ B.size) then some (B.extract (st + (numL n).length) (st + (numL n).length + n), st + (numL n).length + n) else none
  | none => none
theorem textOf_some {B : ByteArray} {st n : Nat} (h : IsNum (B.data.toList.drop st) n) (h1 : n ≤ 60) (h2 : st + (numL n).length + n ≤ B.size) :
    textOf B st = some (B.extract (st + (numL n).length) (st + (numL n).length + n), st + (numL n).length + n) := by
  unfold textOf
  rw [numOf_some h]
  simp [h1, h2]
theorem textOf_none {B : ByteArray} {st : Nat} (h : ∀ n, IsNum (B.data.toList.drop st) n → 60 < n ∨ B.size < st + (numL n).length + n) : textOf B st = none := by
  unfold textOf
  by_cases hx : ∃ n, IsNum (B.data.toList.drop st) n
  · obtain ⟨n, hn⟩ := hx
    rw [numOf_some hn]
    rcases h n hn with h1 | h1
    · simp only [show decide (n ≤ 60) = false from by simp; omega, Bool.false_and, cond_false]
    · simp only [show decide (st + (numL n).length + n ≤ B.size) = false from by simp; omega, Bool.and_false, cond_false]
  · rw [numOf_none (fun n hn => hx ⟨n, hn⟩)]

/-- What ReadText returns. -/
noncomputable def readTextR (B : ByteArray) (at_ : Int) : ByteArray × Int × Bool :=
  match placeB B at_ 6000, textOf B at_.toNat with
  | true, some (s, p) => (s, (p : Int), true)
  | _, _ => (⟨#[]⟩, 0, false)

end Go.Proofs.YtpiheobpobclgaaGreatDoor


/- IsPast, IsAhead, SurelyAfter: walked. -/
namespace Go.Proofs.YtpiheobpobclgaaGreatDoor
open Go.RowKit

end Go.Proofs.YtpiheobpobclgaaGreatDoor


/- The row's own reading of an argument gives a reading as Lean data. Plain lemmas; no program. -/
namespace Go.Proofs.YtpiheobpobclgaaGreatDoor
open Go.RowKit Go.ChangeShapes Go.WideShapes

section
variable {H : Type} {enc : TypeId × Value → H} {P : Program} {w : World}

/-- Whatever reads as data of the type t reads as data of the codec. -/
def Opens {α : Type} (enc : TypeId × Value → H) (P : Program) (w : World) (c : Cod α) (t : TypeId) : Prop :=
  P.cellsOf t = c.size ∧ ∀ (fuel : Nat) (cs : List Value) (x : DataW H × List MemPlace), DataW.trod enc P w 0 (fun _ => true) true fuel t cs = some x → ∃ y fp, c.rd w (fun j => cs[j]?) y fp

theorem opens_int {t : TypeId} (ht : P.underlying t = some (.int .i64)) (hc : P.cellsOf t = 1) : Opens enc P w Cod.int t :=
  ⟨hc, fun _ _ _ h => by
    obtain ⟨n, rfl, _, hw⟩ := DataW.trod_int ht h
    exact ⟨n, [], rfl, by simpa [Lit.wf, IntKind.min, IntKind.max, IntKind.signed, IntKind.bits] using hw, rfl⟩⟩

theorem opens_bool {t : TypeId} (ht : P.underlying t = some .bool) (hc : P.cellsOf t = 1) : Opens enc P w Cod.bool t :=
  ⟨hc, fun _ _ _ h => by
    obtain ⟨n, rfl, _⟩ := DataW.trod_bool ht h
    exact ⟨n, [], rfl, trivial, rfl⟩⟩

theorem opens_str {t : TypeId} (ht : P.underlying t = some .string) (hc : P.cellsOf t = 1) : Opens enc P w Cod.str t :=
  ⟨hc, fun _ _ _ h => by
    obtain ⟨n, rfl, _, hs⟩ := DataW.trod_string ht h
    exact ⟨n, [], rfl, hs, rfl⟩⟩

/-- Fields that follow one another from the cell o on. -/
def OpensF {α : Type} (enc : TypeId × Value → H) (P : Program) (w : World) (c : Cod α) (fs : List Field) (o : Nat) : Prop :=
  ∀ (fuel : Nat) (cs : List Value) (xs : List (DataW H × List MemPlace)), (fs.mapM fun f => DataW.trod enc P w 0 (fun _ => true) true fuel f.type ((cs.drop f.offset).take (P.cellsOf f.type))) = some xs →
    ∃ y fp, c.rd w (fun j => cs[o + j]?) y fp

theorem opensF_one {α : Type} {c : Cod α} {f : Field} {o : Nat} (h : Opens enc P w c f.type) (ho : f.offset = o) : OpensF enc P w c [f] o := by
  intro fuel cs xs hx
  simp only [List.mapM_cons, List.mapM_nil, Option.bind_eq_bind, Option.bind_eq_some_iff] at hx
  obtain ⟨x, hx, _⟩ := hx
  obtain ⟨y, fp, hy⟩ := h.2 _ _ _ hx
  refine ⟨y, fp, c.ext (fun j hj => ?_) hy⟩
  rw [h.1, List.getElem?_take, if_pos hj, List.getElem?_drop, ho]

theorem opensF_cons {α β : Type} {a : Cod α} {b : Cod β} {f : Field} {fs : List Field} {o : Nat} (h : Opens enc P w a f.type) (ho : f.offset = o) (hr : OpensF enc P w b fs (o + a.size)) : OpensF enc P w (Cod.pair a b) (f :: fs) o := by
  intro fuel cs xs hx
  simp only [List.mapM_cons, Option.bind_eq_bind, Option.bind_eq_some_iff] at hx
  obtain ⟨x, hx, xs', hxs, _⟩ := hx
  obtain ⟨y, fp, hy⟩ := h.2 _ _ _ hx
  obtain ⟨z, fq, hz⟩ := hr fuel cs xs' hxs
  refine ⟨(y, z), fp ++ fq, fp, fq, rfl, a.ext (fun j hj => ?_) hy, b.ext (fun j hj => ?_) hz⟩
  · rw [h.1, List.getElem?_take, if_pos hj, List.getElem?_drop, ho]
  · rw [Nat.add_assoc]

theorem opens_struct {α : Type} {c : Cod α} {t : TypeId} {fs : Array Field} (ht : P.underlying t = some (.struct fs)) (hc : P.cellsOf t = c.size) (h : OpensF enc P w c fs.toList 0) : Opens enc P w c t :=
  ⟨hc, fun fuel cs x hx => by
    cases fuel with
    | zero => simp [DataW.trod] at hx
    | succ n =>
      simp only [DataW.trod, ht] at hx
      split at hx
      · simp only [Option.map_eq_some_iff] at hx
        obtain ⟨xs, hxs, _⟩ := hx
        obtain ⟨y, fp, hy⟩ := h n cs xs hxs
        exact ⟨y, fp, c.ext (fun j _ => by simp) hy⟩
      · cases hx⟩

theorem Opens.via {α β : Type} {c : Cod α} {t : TypeId} (h : Opens enc P w c t) (f : β → α) (g : α → β) (hfg : ∀ x, f (g x) = x) : Opens enc P w (Cod.via c f) t :=
  ⟨h.1, fun fuel cs x hx => by
    obtain ⟨y, fp, hy⟩ := h.2 fuel cs x hx
    exact ⟨g y, fp, by show c.rd w _ (f (g y)) fp; rw [hfg]; exact hy⟩⟩

theorem opens_slice {α : Type} {c : Cod α} {t e : TypeId} (ht : P.underlying t = some (.slice e)) (hct : P.cellsOf t = 1) (h : Opens enc P w c e) (hpos : 0 < c.size) : Opens enc P w (Cod.slice c) t :=
  ⟨hct, fun fuel cs x hx => by
    rcases DataW.trod_slice ht hx with ⟨rfl, _⟩ | ⟨a, len, cap, els, rest, n, _, rfl, _, _, hl, hm, hlen, hel, _⟩
    · exact ⟨[], [], _, rfl, none, 0, rfl, Nat.le_refl _, Nat.zero_le _, fun _ => rfl, Or.inl ⟨rfl, rfl⟩⟩
    · have key : ∀ i, i < len → ∃ y fp cs', w.cells? 0 (a.add (i * c.size)) c.size = some cs' ∧ c.rd w (fun j => cs'[j]?) y fp := by
        intro i hi
        have h1 := hel i hi
        rw [h.1, List.getElem?_eq_getElem (by omega), Option.bind_eq_some_iff] at h1
        obtain ⟨cs', h2, h3⟩ := h1
        obtain ⟨y, fp, hy⟩ := h.2 _ _ _ h3
        exact ⟨y, fp, cs', h2, hy⟩
      obtain ⟨b, off, spot⟩ := a
      by_cases h0 : len = 0
      · subst h0
        exact ⟨[], [], _, rfl, _, cap, rfl, Nat.zero_le _, hm, (fun h => by cases h), Or.inl ⟨rfl, rfl⟩⟩
      · have hspot : spot = none := by
          obtain ⟨_, _, cs', h2, _⟩ := key 0 (by omega)
          obtain ⟨_, hl', hcell⟩ := World.cells?_some h2
          have g0 := hcell 0 hpos
          obtain ⟨c0, hc0⟩ : ∃ c0, cs'[0]? = some c0 := by
            cases cs' with
            | nil => simp at hl'; omega
            | cons c _ => exact ⟨c, rfl⟩
          rw [hc0] at g0
          simpa [Addr.add] using World.cell?_spot g0
        subst hspot
        have key2 : ∀ i, i < len → ∃ y fp, c.rd w (cellsAt w b (off + i * c.size)) y fp := by
          intro i hi
          obtain ⟨y, fp, cs', h2, h3⟩ := key i hi
          refine ⟨y, fp, c.ext (fun j hj => ?_) h3⟩
          obtain ⟨_, _, hcell⟩ := World.cells?_some h2
          have := hcell j hj
          rw [add_plain, add_plain] at this
          exact this.symm
        have key3 : ∀ k, k ≤ len → ∃ (xs : List α) (fs : List (List Nat)), xs.length = k ∧ Cod.elems c w b (off + (len - k) * c.size) xs fs := by
          intro k
          induction k with
          | zero => intro _; exact ⟨[], [], rfl, trivial⟩
          | succ k ih =>
            intro hk
            obtain ⟨xs, fs, hx, he⟩ := ih (by omega)
            obtain ⟨y, fp, hy⟩ := key2 (len - (k + 1)) (by omega)
            refine ⟨y :: xs, fp :: fs, by simp [hx], hy, ?_⟩
            have e : off + (len - (k + 1)) * c.size + c.size = off + (len - k) * c.size := by
              rw [show len - k = (len - (k + 1)) + 1 from by omega, Nat.add_mul]; omega
            rw [e]; exact he
        obtain ⟨xs, fs, hxl, he⟩ := key3 len (Nat.le_refl _)
        rw [Nat.sub_self, Nat.zero_mul, Nat.add_zero] at he
        subst hxl
        have hb : b < w.heap.size := by
          obtain ⟨_, _, cs', h2, _⟩ := key 0 (by omega)
          obtain ⟨_, hl', hcell⟩ := World.cells?_some h2
          have g0 := hcell 0 hpos
          obtain ⟨c0, hc0⟩ : ∃ c0, cs'[0]? = some c0 := by
            cases cs' with
            | nil => simp at hl'; omega
            | cons c _ => exact ⟨c, rfl⟩
          rw [hc0] at g0
          have := World.block_lt_of_cell? _ _ g0
          simpa [Addr.add] using this
        exact ⟨xs, b :: fs.flatten, _, rfl, some ⟨b, off, none⟩, cap, rfl, hl, hm, (fun h => by cases h), Or.inr ⟨b, off, fs, rfl, rfl, hb, he⟩⟩⟩

end
end Go.Proofs.YtpiheobpobclgaaGreatDoor


/- The program's types as Lean data, and how an argument of a law is opened. -/
namespace Go.Proofs.YtpiheobpobclgaaGreatDoor
open Go.RowKit Go.ChangeShapes Go.WideShapes

section
variable {H : Type} {enc : TypeId × Value → H} {w : World}

theorem open_arg {P : Program} {α : Type} {c : Cod α} {t : TypeId} {v : Value} {d : DataW H} {ps : List MemPlace} (h : Opens enc P w c t) (hd : DataW.Trod enc P w 0 (fun _ => true) true t v d ps) :
    ∃ y fp, c.rd w (fun j => v.cells[j]?) y fp := by
  obtain ⟨fuel, hf⟩ := hd
  obtain ⟨y, fp, hy⟩ := h.2 _ _ _ hf
  exact ⟨y, fp, c.ext (fun j _ => by simp) hy⟩

theorem array1 {α : Type} {cs : Array α} (h : cs.size = 1) : ∃ c0, cs = #[c0] := by
  obtain ⟨l⟩ := cs
  match l, h with
  | [a], _ => exact ⟨a, rfl⟩
theorem agg_of {cs : Array Value} {n : Nat} (h : cs.size = n) : ∃ l : List Value, cs = l.toArray ∧ l.length = n := ⟨cs.toList, by simp, by simpa using h⟩

theorem opensInt : Opens enc Tryz.prog w Cod.int 3 := opens_int Tryz.underlying3 (by kernel_rfl)
theorem opensBool : Opens enc Tryz.prog w Cod.bool 4 := opens_bool Tryz.underlying4 (by kernel_rfl)
theorem opensStr : Opens enc Tryz.prog w Cod.str 9 := opens_str Tryz.underlying9 (by kernel_rfl)

structure Clock where
  Off : Int

def Cod.clock : Cod Clock := Cod.via Cod.int (fun c => c.Off)

structure Span where
  Low : Int
  High : Int

end

end Go.Proofs.YtpiheobpobclgaaGreatDoor


/- The size law's helpers and the plain functions of disks, walked. -/
namespace Go.Proofs.YtpiheobpobclgaaGreatDoor
open Go.RowKit

/-- laws.szDisk: what is left behind the disk's letters, -1 where that is below 0. -/
def szDiskF (x y : ByteArray) (left : Int) : Int := if left - x.size < 0 then -1 else if left - x.size - y.size < 0 then -1 else left - x.size - y.size

def diskB (x y : ByteArray) : Bool := decide (x.size + y.size ≤ 50000)

end Go.Proofs.YtpiheobpobclgaaGreatDoor


/- Disks: written, made durable, fallen. -/
namespace Go.Proofs.YtpiheobpobclgaaGreatDoor
open Go.RowKit

/-- x, where q says so; else nothing. -/
def pickB : Bool → ByteArray → ByteArray
  | true, x => x
  | false, _ => ⟨#[]⟩
@[simp] theorem pickB_true (x : ByteArray) : pickB true x = x := rfl
@[simp] theorem pickB_false (x : ByteArray) : pickB false x = ⟨#[]⟩ := rfl

theorem size_append (x y : ByteArray) : (x ++ y).size = x.size + y.size := by simp

end Go.Proofs.YtpiheobpobclgaaGreatDoor


/- A region that draws its order: a head whose operations are quiet in a class of worlds (they read, or call what makes memory alone and gives plain values), in whatever order; then a tail in the one order that is left. -/
namespace Go.Proofs.YtpiheobpobclgaaGreatDoor
open Go.RowKit

section
variable {P : Program} {md : Region.Mode} {ops : Array Oper} {C : World → Prop}

/-- f operations of the head (numbers below n) in whatever order, then L. -/
def AnyHead (P : Program) (md : Region.Mode) (ops : Array Oper) (C : World → Prop) (n : Nat) (L : Array Bool → Act → Prop) : Nat → Array Bool → Act → Prop
  | 0, done, a => L done a
  | f + 1, done, a => Region.ready md ops done ≠ [] ∧ ∀ i ∈ Region.ready md ops done, i < n ∧ qOp P ops C i (AnyHead P md ops C n L f (done.setIfInBounds i true)) a

theorem any_of_head {n g : Nat} {L : Array Bool → Act → Prop} {Q : Exit → Act → World → Prop} (hL : ∀ done a w, C w → L done a → wpAny P md ops Q g done a w) :
    ∀ (f : Nat) (done : Array Bool) (a : Act) (w : World), C w → AnyHead P md ops C n L f done a → wpAny P md ops Q (f + g) done a w := by
  intro f
  induction f with
  | zero => intro done a w hw h; rw [Nat.zero_add]; exact hL _ _ _ hw h
  | succ f ih =>
    intro done a w hw h
    rw [show f + 1 + g = f + g + 1 by omega]
    exact ⟨fun h0 => absurd h0 h.1, fun i hi => wpOp_of_qOp hw (fun a' w' hw' h' => ih _ a' w' hw' h') (h.2 i hi).2⟩

/-- Of the head's operations one that may come up now may be taken first. -/
theorem head_first {n i : Nat} {oi : Oper} {v : Value} {L : Array Bool → Act → Prop} (hi : ops[i]? = some oi) (hsel : ∀ (j : Nat) (o : Oper) cs b, ops[j]? = some o → o.op ≠ .select cs b)
    (hs : Region.sinkB md ops n = true) (hc : Region.chainB md ops n = true) (hn : n < ops.size) (hin : i < n) (hdone : ∀ done a, L done a → ∀ j ∈ Region.ready md ops done, n ≤ j) :
    ∀ (f : Nat) (done : Array Bool) (a : Act), HeadInv md ops n done →
      (∀ j oj, ops[j]? = some oj → j ≠ i → done.getD j true = false → (∀ e ∈ oj.after, Region.binds md e = true → e.on ≠ i) → oi.apart ops oj = true) →
      i ∈ Region.ready md ops done → YieldsIn P ops C oi v a → AnyHead P md ops C n L f (done.setIfInBounds i true) (a.put oi.dst v) → AnyHead P md ops C n L (f + 1) done a := by
  intro f
  induction f with
  | zero =>
    intro done a inv _ hr hy H
    refine ⟨fun h => by rw [h] at hr; exact absurd hr List.not_mem_nil, fun j hj => ?_⟩
    have hjn : j < n := Nat.lt_of_not_le fun h => tail_waits hs hc hn inv _ i rfl hin (mem_ready.1 hr).1 j h hj
    refine ⟨hjn, ?_⟩
    by_cases e : j = i
    · rw [e]; exact hy.qOp hi H
    · exact absurd (hdone _ _ H j (ready_mono hj e)) (by omega)
  | succ f ih =>
    intro done a inv hfree hr hy H
    have hun := (mem_ready.1 hr).1
    refine ⟨fun h => by rw [h] at hr; exact absurd hr List.not_mem_nil, fun j hj => ?_⟩
    have hjn : j < n := Nat.lt_of_not_le fun h => tail_waits hs hc hn inv _ i rfl hin hun j h hj
    refine ⟨hjn, ?_⟩
    by_cases e : j = i
    · rw [e]; exact hy.qOp hi H
    · obtain ⟨hjun, oj, hoj, hall⟩ := mem_ready.1 hj
      have hnot : ∀ ed ∈ oj.after, Region.binds md ed = true → ed.on ≠ i := fun ed he hb heq => by
        have h1 := hall ed he hb
        rw [heq, getD_both hun] at h1
        exact Bool.noConfusion h1
      refine qOp_mono (fun a' h3 => ih (done.setIfInBounds j true) a' (inv.set hj hjn) (fun k ok hk hki hk2 hno => hfree k ok hk hki ?_ hno) (ready_mono hr (Ne.symm e)) h3.1 ?_)
        (qOp_put hoj (hfree j oj hoj e hjun hnot) (fun cs b => hsel i oi cs b hi) (fun cs b => hsel j oj cs b hoj) hy (H.2 j (ready_mono hj e)).2)
      · by_cases hjk : j = k
        · rw [← hjk]; exact hjun
        · rwa [getD_set_ne true hjk] at hk2
      · rw [Array.setIfInBounds_comm _ _ e]; exact h3.2

theorem head_lex {n g : Nat} {Lq : Act → Prop} (hsel : Region.noSelect ops = true) (hs : Region.sinkB md ops n = true) (hc : Region.chainB md ops n = true) (hn : n < ops.size) :
    ∀ (l : List Oper) (k : Nat) (done : Array Bool) (a : Act), (∀ j, j < l.length → l[j]? = ops[k + j]?) → k + l.length = n → HeadInv md ops n done →
      Region.lexHead md ops g l.length k done = true → wpQuiet P ops C Lq l a → AnyHead P md ops C n (fun done' a' => Region.seqB md ops g n done' = true ∧ Lq a') l.length done a := by
  intro l
  induction l with
  | nil =>
    intro k done a _ hk _ hB h
    have e : k = n := by simpa using hk
    subst e
    exact ⟨by simpa [Region.lexHead] using hB, h⟩
  | cons o l ih =>
    intro k done a hl hk inv hB h
    have h0 : ops[k]? = some o := by simpa using (hl 0 (by simp)).symm
    simp only [List.length_cons] at hk
    simp only [List.length_cons, Region.lexHead, Bool.and_eq_true] at hB
    have hr : k ∈ Region.ready md ops done := by simpa using hB.1.1
    have hq : qOp P ops C k (wpQuiet P ops C Lq l) a := by unfold qOp; simp only [h0]; exact h
    obtain ⟨v, hy, hK⟩ := yieldsIn_of_qOp h0 hq
    refine head_first h0 (Region.noSelect_spec hsel) hs hc hn (by omega) (fun done' a' hL => seqB_ready hL.1) l.length done a inv (Region.free_spec h0 hB.1.2) hr hy ?_
    exact ih (k + 1) _ _ (fun j hj => by have := hl (j + 1) (by simp; omega); simpa [Nat.add_assoc, Nat.add_comm 1 j] using this) (by omega) (inv.set hr (by omega)) hB.2 hK

/-- The head in the class of w's extensions from block B on, then the tail, in any world of the class. -/
theorem wp_region_ext_tail {id : Nat} {Q : Exit → Act → World → Prop} {a : Act} {w : World} {l : List Oper} (n : Nat) (hm : P.follows .mixedOrders = true) (hB : Region.lexTailB .any l.toArray n = true) (B : Nat)
    (h : wpQuiet P l.toArray (fun w' => ∃ u, w' = ext B w u) (fun a' => ∀ w', Below B w w' → wpList P l.toArray Q (l.drop n) a' w') (l.take n) a) : (Code.region id l.toArray true).wp P Q a w := by
  simp only [Region.lexTailB, Bool.and_eq_true, decide_eq_true_eq] at hB
  obtain ⟨⟨⟨⟨hsel, hn⟩, hs⟩, hc⟩, hlex⟩ := hB
  have hnl : n < l.length := by simpa using hn
  have htl : (l.take n).length = n := by simp; omega
  have hdl : (l.drop n).length = l.toArray.size - n := by simp
  have inv0 : HeadInv .any l.toArray n (Array.replicate l.toArray.size false) :=
    ⟨by simp, fun j oj _ hl => by rw [getD_replicate_false] at hl; exact Bool.noConfusion hl, fun t _ ht => getD_in (by simpa using ht) (getD_replicate_false _ _)⟩
  have H := head_lex (C := fun w' => ∃ u, w' = ext B w u) (md := .any) (g := l.toArray.size - n) hsel hs hc hn (l.take n) 0 _ a
    (fun j hj => by rw [htl] at hj; simp [hj]) (by simpa using htl) inv0 (by rw [htl]; exact hlex) h
  refine wp_region_any hm ?_
  have key := any_of_head (Q := Q) (g := l.toArray.size - n) (fun done a' w' hw' hL => by
    obtain ⟨u, rfl⟩ := hw'
    have := wpAny_of_seq (md := .any) (Q' := Q) (l.drop n) n done a' (ext B w u) (fun j => by simp [List.getElem?_drop]) (by rw [hdl]; exact hL.1) (hL.2 _ (ext_below B w u))
    rwa [hdl] at this) _ _ _ { w with drawn := w.drawn + 1 } (ext_of_below (Below.refl B w).drew) H
  rw [htl, show n + (l.toArray.size - n) = l.toArray.size by omega] at key
  exact key
end
end Go.Proofs.YtpiheobpobclgaaGreatDoor


/- Frames and their writing; a fall: walked. -/
namespace Go.Proofs.YtpiheobpobclgaaGreatDoor
open Go.RowKit

def frameB (s : ByteArray) : ByteArray := numB s.size ++ sealB s
theorem sealB_size (s : ByteArray) : (sealB s).size = s.size + 3 := by unfold sealB; rw [size_append]; rfl
theorem frameB_size (s : ByteArray) : (frameB s).size ≤ 2 * s.size + 4 := by
  unfold frameB; rw [size_append, sealB_size]; have := numB_size s.size; omega

def frameR (s : ByteArray) : ByteArray × Bool := if s.size ≤ 700 then (frameB s, true) else (⟨#[]⟩, false)

/-- What WriteDisk says. -/
def writeQ (x y s : ByteArray) : Bool := diskB x y && decide (s.size ≤ 700) && diskB x (y ++ frameB s)

end Go.Proofs.YtpiheobpobclgaaGreatDoor


/- ReadFrame, both. -/
namespace Go.Proofs.YtpiheobpobclgaaGreatDoor
open Go.RowKit

/-- The frame with which bytes go on at a place, and the place behind it. -/
noncomputable def frameOf (B : ByteArray) (st : Nat) : Option (ByteArray × Nat) :=
  match numOf (B.data.toList.drop st) with
  | some n => bif decide (n ≤ 700) && decide (st + (numL n).length + n + 3 ≤ B.size) && decide (sealB (B.extract (st + (numL n).length) (st + (numL n).length + n)) = B.extract (st + (numL n).length) (st + (numL n).length + n) ++ B.extract (st + (numL n).length + n) (st + (numL n).length + n + 3))
    then some (B.extract (st + (numL n).length) (st + (numL n).length + n), st + (numL n).length + n + 3) else none
  | none => none
theorem frameOf_none {B : ByteArray} {st : Nat} (h : ∀ n, ¬ IsNum (B.data.toList.drop st) n) : frameOf B st = none := by
  unfold frameOf
  rw [numOf_none h]
theorem frameOf_big {B : ByteArray} {st n : Nat} (hn : IsNum (B.data.toList.drop st) n) (h : 700 < n) : frameOf B st = none := by
  unfold frameOf
  rw [numOf_some hn]
  simp only [show decide (n ≤ 700) = false from by simp; omega, Bool.false_and, cond_false]
theorem frameOf_short {B : ByteArray} {st n : Nat} (hn : IsNum (B.data.toList.drop st) n) (h : B.size < st + (numL n).length + n + 3) : frameOf B st = none := by
  unfold frameOf
  rw [numOf_some hn]
  simp only [show decide (st + (numL n).length + n + 3 ≤ B.size) = false from by simp; omega, Bool.and_false, Bool.false_and, cond_false]
theorem frameOf_bad {B : ByteArray} {st n p : Nat} (hn : IsNum (B.data.toList.drop st) n) (hp : st + (numL n).length = p) (h : ¬ sealB (B.extract p (p + n)) = B.extract p (p + n) ++ B.extract (p + n) (p + n + 3)) : frameOf B st = none := by
  subst hp
  unfold frameOf
  rw [numOf_some hn]
  simp only [h, decide_false, Bool.and_false, cond_false]
theorem frameOf_some {B : ByteArray} {st n p : Nat} (hn : IsNum (B.data.toList.drop st) n) (hp : st + (numL n).length = p) (h1 : n ≤ 700) (h2 : p + n + 3 ≤ B.size) (h : sealB (B.extract p (p + n)) = B.extract p (p + n) ++ B.extract (p + n) (p + n + 3)) : frameOf B st = some (B.extract p (p + n), p + n + 3) := by
  subst hp
  unfold frameOf
  rw [numOf_some hn]
  simp only [h1, h2, h, decide_true, Bool.and_true, cond_true]

noncomputable def frameP (B : ByteArray) (st : Nat) : ByteArray × Int × Bool :=
  match frameOf B st with
  | some (s, p) => (s, (p : Int), true)
  | none => (⟨#[]⟩, 0, false)
theorem frameP_none {B : ByteArray} {st : Nat} (h : frameOf B st = none) : frameP B st = (⟨#[]⟩, 0, false) := by unfold frameP; rw [h]
theorem frameP_some {B : ByteArray} {st p : Nat} {s : ByteArray} (h : frameOf B st = some (s, p)) : frameP B st = (s, (p : Int), true) := by unfold frameP; rw [h]

/-- impl.ReadFrame's answer. -/
noncomputable def readFrameR (B : ByteArray) (at_ : Int) : ByteArray × Int × Bool :=
  bif decide (B.size ≤ 50000) && inB at_ 0 B.size then frameP B at_.toNat else (⟨#[]⟩, 0, false)

theorem ext_split (B : ByteArray) {a b c : Nat} (h : a ≤ b) (k : b ≤ c) : B.extract a c = B.extract a b ++ B.extract b c := by
  rw [ByteArray.extract_append_extract, Nat.min_eq_left h, Nat.max_eq_right k]

theorem num_bytes {B : ByteArray} {st n p : Nat} (hn : IsNum (B.data.toList.drop st) n) (hp : st + (numL n).length = p) : B.extract st p = numB n := by
  subst hp
  have h1 := List.prefix_iff_eq_take.1 hn.2
  have h3 : (B.extract st (st + (numL n).length)).data.toList = (numB n).data.toList := by
    rw [ByteArray.data_extract, Array.toList_extract, List.extract_eq_take_drop, Nat.add_sub_cancel_left, ← h1]
    simp [numB]
  exact str_eq_iff.1 (by rw [ByteArray.toList_eq, ByteArray.toList_eq]; exact h3)

theorem frame_iff {B : ByteArray} {st n p : Nat} (hn : IsNum (B.data.toList.drop st) n) (hp : st + (numL n).length = p) (hs : p + n + 3 ≤ B.size) :
    frameB (B.extract p (p + n)) = B.extract st (p + n + 3) ↔ sealB (B.extract p (p + n)) = B.extract p (p + n) ++ B.extract (p + n) (p + n + 3) := by
  have hsz : (B.extract p (p + n)).size = n := by rw [ByteArray.size_extract]; omega
  unfold frameB
  rw [hsz, ext_split B (show st ≤ p from by omega) (show p ≤ p + n + 3 from by omega), num_bytes hn hp, ext_split B (show p ≤ p + n from by omega) (show p + n ≤ p + n + 3 from by omega)]
  exact ByteArray.append_right_inj _

/-- spec.l6Read's answer. -/
noncomputable def frameS (B : ByteArray) (st : Nat) : ByteArray × Int :=
  match frameOf B st with
  | some (s, p) => (s, (p : Int))
  | none => (⟨#[]⟩, -1)
theorem frameS_none {B : ByteArray} {st : Nat} (h : frameOf B st = none) : frameS B st = (⟨#[]⟩, -1) := by unfold frameS; rw [h]
theorem frameS_some {B : ByteArray} {st p : Nat} {s : ByteArray} (h : frameOf B st = some (s, p)) : frameS B st = (s, (p : Int)) := by unfold frameS; rw [h]

end Go.Proofs.YtpiheobpobclgaaGreatDoor


/- All frames from the front, both. -/
namespace Go.Proofs.YtpiheobpobclgaaGreatDoor
open Go.RowKit

theorem Tryz_info_str : (Tryz.prog.info? 9).map (fun i => (i.zero, i.size, i.bytes)) = some (some (.string ⟨#[]⟩), 1, 16) := by kernel_rfl

theorem own_below {w w' : World} {base : Nat} {e : TypeId} {size : Nat} {v : Value} {n : Nat} {xs : List Value} (h : w.ownsRow base e size v n xs) (k : Below w.heap.size w w') : w'.ownsRow base e size v n xs :=
  h.kept (row := none) ⟨k.os, k.tape, k.output, k.size, fun i hi _ => k.block i hi⟩ (by by_cases hv : v.ownBlock = none; exact .inl hv; exact .inr hv)

/-- The frames from a place on, and the place behind the last one. -/
noncomputable def framesF : Nat → ByteArray → Nat → List ByteArray × Nat
  | 0, _, st => ([], st)
  | k + 1, B, st => match frameOf B st with
    | some (s, p) => (s :: (framesF k B p).1, (framesF k B p).2)
    | none => ([], st)

theorem frameOf_lt {B : ByteArray} {st : Nat} {s : ByteArray} {p : Nat} (h : frameOf B st = some (s, p)) : st < p ∧ p ≤ B.size := by
  unfold frameOf at h
  cases hn : numOf (B.data.toList.drop st) with
  | none => rw [hn] at h; cases h
  | some n =>
    rw [hn] at h
    simp only [cond_eq_ite, Bool.and_eq_true, decide_eq_true_eq] at h
    split at h
    · rename_i hc
      injection h with h
      injection h with h1 h2
      omega
    · cases h

theorem framesF_le {B : ByteArray} : ∀ (k st : Nat), st ≤ B.size → (framesF k B st).2 ≤ B.size := by
  intro k
  induction k with
  | zero => intro st h; exact h
  | succ k ih =>
    intro st h
    unfold framesF
    cases hf : frameOf B st with
    | none => exact h
    | some sp => obtain ⟨s, p⟩ := sp; exact ih p (frameOf_lt hf).2

theorem framesF_none {B : ByteArray} {k st : Nat} (hk : 0 < k) (h : frameOf B st = none) : framesF k B st = ([], st) := by
  cases k with
  | zero => omega
  | succ k => unfold framesF; rw [h]
theorem framesF_some {B : ByteArray} {k st p : Nat} {s : ByteArray} (hk : 0 < k) (h : frameOf B st = some (s, p)) : framesF k B st = (s :: (framesF (k - 1) B p).1, (framesF (k - 1) B p).2) := by
  cases k with
  | zero => omega
  | succ k => rw [framesF, h]; rfl

/-- What reading all frames comes to. -/
def FramesPost (B : ByteArray) (w : World) (e : Ending) (w' : World) : Prop :=
  ∃ v, e = .returned (.tuple #[v, .int .i64 ((framesF (B.size + 1) B 0).2 : Int)]) ∧ w'.ownsRow w.heap.size 9 1 v (framesF (B.size + 1) B 0).1.length ((framesF (B.size + 1) B 0).1.map Value.string) ∧ Below w.heap.size w w'

end Go.Proofs.YtpiheobpobclgaaGreatDoor

