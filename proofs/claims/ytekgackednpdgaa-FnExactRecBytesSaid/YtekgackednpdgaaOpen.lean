/- The row's own reading of an argument gives a reading as Lean data. Plain lemmas; no program. -/
import Derived.Test.YtekgackednpdgaaCod
import Derived.Lib.SmallJoins
namespace Go.Proofs.Ytekgackednpdgaa
open Go.RowKit Go.ChangeShapes Go.WideShapes

section
variable {H : Type} {enc : TypeId × Value → H} {P : Program} {w : World}

/-- Whatever reads as data of the type t reads as data of the codec. -/
def Opens {α : Type} (enc : TypeId × Value → H) (P : Program) (w : World) (c : Cod α) (t : TypeId) : Prop :=
  P.cellsOf t = c.size ∧ ∀ (fuel : Nat) (cs : List Value) (x : DataW H × List MemPlace), DataW.trod enc P w 0 (fun _ => true) true fuel t cs = some x → ∃ y fp, c.rd w (fun j => cs[j]?) y fp

theorem opens_int {t : TypeId} (ht : P.underlying t = some (.int .i64)) (hc : P.cellsOf t = 1) : Opens enc P w Cod.int t :=
  ⟨hc, fun _ _ _ h => by
    obtain ⟨n, rfl, _, hw⟩ := DataW.trod_int ht h
    exact ⟨n, [], rfl, by simpa [Lit.wf, IntKind.min, IntKind.max, IntKind.signed, IntKind.bits] using hw, rfl⟩⟩

theorem opens_bool {t : TypeId} (ht : P.underlying t = some .bool) (hc : P.cellsOf t = 1) : Opens enc P w Cod.bool t :=
  ⟨hc, fun _ _ _ h => by
    obtain ⟨n, rfl, _⟩ := DataW.trod_bool ht h
    exact ⟨n, [], rfl, trivial, rfl⟩⟩

theorem opens_str {t : TypeId} (ht : P.underlying t = some .string) (hc : P.cellsOf t = 1) : Opens enc P w Cod.str t :=
  ⟨hc, fun _ _ _ h => by
    obtain ⟨n, rfl, _, hs⟩ := DataW.trod_string ht h
    exact ⟨n, [], rfl, hs, rfl⟩⟩

/-- Fields that follow one another from the cell o on. -/
def OpensF {α : Type} (enc : TypeId × Value → H) (P : Program) (w : World) (c : Cod α) (fs : List Field) (o : Nat) : Prop :=
  ∀ (fuel : Nat) (cs : List Value) (xs : List (DataW H × List MemPlace)), (fs.mapM fun f => DataW.trod enc P w 0 (fun _ => true) true fuel f.type ((cs.drop f.offset).take (P.cellsOf f.type))) = some xs →
    ∃ y fp, c.rd w (fun j => cs[o + j]?) y fp

theorem opensF_one {α : Type} {c : Cod α} {f : Field} {o : Nat} (h : Opens enc P w c f.type) (ho : f.offset = o) : OpensF enc P w c [f] o := by
  intro fuel cs xs hx
  simp only [List.mapM_cons, List.mapM_nil, Option.bind_eq_bind, Option.bind_eq_some_iff] at hx
  obtain ⟨x, hx, _⟩ := hx
  obtain ⟨y, fp, hy⟩ := h.2 _ _ _ hx
  refine ⟨y, fp, c.ext (fun j hj => ?_) hy⟩
  rw [h.1, List.getElem?_take, if_pos hj, List.getElem?_drop, ho]

theorem opensF_cons {α β : Type} {a : Cod α} {b : Cod β} {f : Field} {fs : List Field} {o : Nat} (h : Opens enc P w a f.type) (ho : f.offset = o) (hr : OpensF enc P w b fs (o + a.size)) : OpensF enc P w (Cod.pair a b) (f :: fs) o := by
  intro fuel cs xs hx
  simp only [List.mapM_cons, Option.bind_eq_bind, Option.bind_eq_some_iff] at hx
  obtain ⟨x, hx, xs', hxs, _⟩ := hx
  obtain ⟨y, fp, hy⟩ := h.2 _ _ _ hx
  obtain ⟨z, fq, hz⟩ := hr fuel cs xs' hxs
  refine ⟨(y, z), fp ++ fq, fp, fq, rfl, a.ext (fun j hj => ?_) hy, b.ext (fun j hj => ?_) hz⟩
  · rw [h.1, List.getElem?_take, if_pos hj, List.getElem?_drop, ho]
  · rw [Nat.add_assoc]

theorem opens_struct {α : Type} {c : Cod α} {t : TypeId} {fs : Array Field} (ht : P.underlying t = some (.struct fs)) (hc : P.cellsOf t = c.size) (h : OpensF enc P w c fs.toList 0) : Opens enc P w c t :=
  ⟨hc, fun fuel cs x hx => by
    cases fuel with
    | zero => simp [DataW.trod] at hx
    | succ n =>
      simp only [DataW.trod, ht] at hx
      split at hx
      · simp only [Option.map_eq_some_iff] at hx
        obtain ⟨xs, hxs, _⟩ := hx
        obtain ⟨y, fp, hy⟩ := h n cs xs hxs
        exact ⟨y, fp, c.ext (fun j _ => by simp) hy⟩
      · cases hx⟩

theorem Opens.via {α β : Type} {c : Cod α} {t : TypeId} (h : Opens enc P w c t) (f : β → α) (g : α → β) (hfg : ∀ x, f (g x) = x) : Opens enc P w (Cod.via c f) t :=
  ⟨h.1, fun fuel cs x hx => by
    obtain ⟨y, fp, hy⟩ := h.2 fuel cs x hx
    exact ⟨g y, fp, by show c.rd w _ (f (g y)) fp; rw [hfg]; exact hy⟩⟩

theorem opens_slice {α : Type} {c : Cod α} {t e : TypeId} (ht : P.underlying t = some (.slice e)) (hct : P.cellsOf t = 1) (h : Opens enc P w c e) (hpos : 0 < c.size) : Opens enc P w (Cod.slice c) t :=
  ⟨hct, fun fuel cs x hx => by
    rcases DataW.trod_slice ht hx with ⟨rfl, _⟩ | ⟨a, len, cap, els, rest, n, _, rfl, _, _, hl, hm, hlen, hel, _⟩
    · exact ⟨[], [], _, rfl, none, 0, rfl, Nat.le_refl _, Nat.zero_le _, fun _ => rfl, Or.inl ⟨rfl, rfl⟩⟩
    · have key : ∀ i, i < len → ∃ y fp cs', w.cells? 0 (a.add (i * c.size)) c.size = some cs' ∧ c.rd w (fun j => cs'[j]?) y fp := by
        intro i hi
        have h1 := hel i hi
        rw [h.1, List.getElem?_eq_getElem (by omega), Option.bind_eq_some_iff] at h1
        obtain ⟨cs', h2, h3⟩ := h1
        obtain ⟨y, fp, hy⟩ := h.2 _ _ _ h3
        exact ⟨y, fp, cs', h2, hy⟩
      obtain ⟨b, off, spot⟩ := a
      by_cases h0 : len = 0
      · subst h0
        exact ⟨[], [], _, rfl, _, cap, rfl, Nat.zero_le _, hm, (fun h => by cases h), Or.inl ⟨rfl, rfl⟩⟩
      · have hspot : spot = none := by
          obtain ⟨_, _, cs', h2, _⟩ := key 0 (by omega)
          obtain ⟨_, hl', hcell⟩ := World.cells?_some h2
          have g0 := hcell 0 hpos
          obtain ⟨c0, hc0⟩ : ∃ c0, cs'[0]? = some c0 := by
            cases cs' with
            | nil => simp at hl'; omega
            | cons c _ => exact ⟨c, rfl⟩
          rw [hc0] at g0
          simpa [Addr.add] using World.cell?_spot g0
        subst hspot
        have key2 : ∀ i, i < len → ∃ y fp, c.rd w (cellsAt w b (off + i * c.size)) y fp := by
          intro i hi
          obtain ⟨y, fp, cs', h2, h3⟩ := key i hi
          refine ⟨y, fp, c.ext (fun j hj => ?_) h3⟩
          obtain ⟨_, _, hcell⟩ := World.cells?_some h2
          have := hcell j hj
          rw [add_plain, add_plain] at this
          exact this.symm
        have key3 : ∀ k, k ≤ len → ∃ (xs : List α) (fs : List (List Nat)), xs.length = k ∧ Cod.elems c w b (off + (len - k) * c.size) xs fs := by
          intro k
          induction k with
          | zero => intro _; exact ⟨[], [], rfl, trivial⟩
          | succ k ih =>
            intro hk
            obtain ⟨xs, fs, hx, he⟩ := ih (by omega)
            obtain ⟨y, fp, hy⟩ := key2 (len - (k + 1)) (by omega)
            refine ⟨y :: xs, fp :: fs, by simp [hx], hy, ?_⟩
            have e : off + (len - (k + 1)) * c.size + c.size = off + (len - k) * c.size := by
              rw [show len - k = (len - (k + 1)) + 1 from by omega, Nat.add_mul]; omega
            rw [e]; exact he
        obtain ⟨xs, fs, hxl, he⟩ := key3 len (Nat.le_refl _)
        rw [Nat.sub_self, Nat.zero_mul, Nat.add_zero] at he
        subst hxl
        have hb : b < w.heap.size := by
          obtain ⟨_, _, cs', h2, _⟩ := key 0 (by omega)
          obtain ⟨_, hl', hcell⟩ := World.cells?_some h2
          have g0 := hcell 0 hpos
          obtain ⟨c0, hc0⟩ : ∃ c0, cs'[0]? = some c0 := by
            cases cs' with
            | nil => simp at hl'; omega
            | cons c _ => exact ⟨c, rfl⟩
          rw [hc0] at g0
          have := World.block_lt_of_cell? _ _ g0
          simpa [Addr.add] using this
        exact ⟨xs, b :: fs.flatten, _, rfl, some ⟨b, off, none⟩, cap, rfl, hl, hm, (fun h => by cases h), Or.inr ⟨b, off, fs, rfl, rfl, hb, he⟩⟩⟩

end
end Go.Proofs.Ytekgackednpdgaa
