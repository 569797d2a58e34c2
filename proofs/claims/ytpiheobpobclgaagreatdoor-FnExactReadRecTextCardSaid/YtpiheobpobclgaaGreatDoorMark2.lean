/- Two slices that are marked one behind the other. Plain lemmas; no program. -/
import Derived.Test.YtpiheobpobclgaaGreatDoorLawM
namespace Go.Proofs.YtpiheobpobclgaaGreatDoor
open Go.RowKit

/-- A slice that holds its marks, by blocks f. -/
def HeldF (p : PT) (w : World) (v : Value) (f : List Nat) (k L : Nat) : Prop := PT.okS p w v f ∧ f.Nodup ∧ Marked w (PT.planS p w v) k ∧ (PT.planS p w v).length = L
theorem HeldF.held {p : PT} {w : World} {v : Value} {f : List Nat} {k L : Nat} (h : HeldF p w v f k L) : HeldS p w v k L := ⟨f, h⟩
theorem HeldF.stay {p : PT} {w w' : World} {v : Value} {f : List Nat} {k L : Nat} (h : HeldF p w v f k L) (hs : w.heap.size ≤ w'.heap.size) (hf : ∀ a : Addr, a.block ∈ f → w'.cell? a = w.cell? a) : HeldF p w' v f k L := by
  obtain ⟨ho, hn, hm, hl⟩ := h
  have hin := fun x hx => PT.planS_in ho x hx
  have := PT.okS_stay ho hn hs (fun a ha _ => hf a ha) (fun x hx => by
    obtain ⟨u, hu⟩ := PT.planS_cell ho x hx
    exact ⟨u, (hf x.1 (hin x hx)).trans hu⟩)
  refine ⟨this.1, hn, ?_, by rw [this.2]; exact hl⟩
  rw [this.2]
  intro i hi
  rw [hf _ (hin _ (List.getElem_mem _))]
  exact hm i hi
theorem HeldF.below {p : PT} {w w' : World} {v : Value} {f : List Nat} {k L : Nat} (h : HeldF p w v f k L) (hb : Below w.heap.size w w') : HeldF p w' v f k L :=
  h.stay hb.size fun a ha => hb.cell (p := a) (PT.okS_old h.1 _ ha)
theorem HeldF.far {p : PT} {w w' : World} {v : Value} {f : List Nat} {k L k' : Nat} {P : List (Addr × MK)} (h : HeldF p w v f k L) (hs : Stored w w' P k') (hd : ∀ x ∈ P, x.1.block ∉ f) : HeldF p w' v f k L :=
  h.stay hs.size fun a ha => hs.same a (PT.okS_old h.1 _ ha) fun hm => by
    obtain ⟨y, hy, e⟩ := List.mem_map.1 hm
    exact hd y hy (e ▸ ha)

section
variable {α β : Type} {c1 : Cod α} {c2 : Cod β} {p1 p2 : PT} {L1 : α → Nat} {L2 : β → Nat} {u w w' : World} {lo hi : Nat} {a b : Value} {xs : List α} {ys : List β}

/-- Two slices of the call's own, apart from each other. -/
def Own2 (c1 : Cod α) (c2 : Cod β) (w : World) (lo hi : Nat) (a b : Value) (xs : List α) (ys : List β) : Prop :=
  ∃ f1 f2, Cod.rdS c1 w a xs f1 ∧ Cod.rdS c2 w b ys f2 ∧ Mine w lo (f1 ++ f2) ∧ ∀ d ∈ f1 ++ f2, d < hi
theorem Own2.frame (h : Own2 c1 c2 w lo hi a b xs ys) (k : ∀ d, lo ≤ d → d < hi → d < w.heap.size → w'.heap[d]? = w.heap[d]?) : Own2 c1 c2 w' lo hi a b xs ys := by
  obtain ⟨f1, f2, h1, h2, m, r⟩ := h
  have hl : ∀ d ∈ f1 ++ f2, d < w.heap.size := fun d hd => by
    rcases List.mem_append.1 hd with hd | hd
    · exact Cod.rdS_old _ h1 d hd
    · exact Cod.rdS_old _ h2 d hd
  have hf := fun d (hd : d ∈ f1 ++ f2) => k d (m.low d hd) (r d hd) (hl d hd)
  exact ⟨f1, f2, Cod.rdS_frame _ (fun d hd => hf d (List.mem_append_left _ hd)) h1, Cod.rdS_frame _ (fun d hd => hf d (List.mem_append_right _ hd)) h2, m.frame hf, r⟩
theorem Own2.below (h : Own2 c1 c2 w lo hi a b xs ys) (k : Below w.heap.size w w') : Own2 c1 c2 w' lo hi a b xs ys := h.frame fun d _ _ h3 => k.block d h3
theorem Own2.turn {x y : Nat} (h : Own2 c1 c2 w lo hi a b xs ys) (k : Turn x y w w') (hd : hi ≤ x ∨ y ≤ lo) : Own2 c1 c2 w' lo hi a b xs ys := h.frame fun d h1 h2 h3 => k.block d h3 (by omega)
theorem Own2.mono {lo' : Nat} (h : Own2 c1 c2 w lo hi a b xs ys) (k : lo' ≤ lo) : Own2 c1 c2 w lo' hi a b xs ys := by
  obtain ⟨f1, f2, h1, h2, m, r⟩ := h
  exact ⟨f1, f2, h1, h2, m.mono k, r⟩
theorem Own2.rd1 (h : Own2 c1 c2 w lo hi a b xs ys) : Rd c1 w a xs := by
  obtain ⟨f1, f2, h1, _⟩ := h
  exact ⟨f1, h1⟩
theorem Own2.rd2 (h : Own2 c1 c2 w lo hi a b xs ys) : Rd c2 w b ys := by
  obtain ⟨f1, f2, _, h2, _⟩ := h
  exact ⟨f2, h2⟩
theorem own2_of {mid : Nat} (h1 : OwnIn c1 w lo mid a xs) (h2 : OwnIn c2 w mid hi b ys) (hlm : lo ≤ mid) (hmh : mid ≤ hi) : Own2 c1 c2 w lo hi a b xs ys := by
  obtain ⟨f1, s1, m1, l1⟩ := h1
  obtain ⟨f2, s2, m2, l2⟩ := h2
  refine ⟨f1, f2, s1, s2, m1.app (m2.mono hlm) (fun d h1 h2 => by have := l1 d h1; have := m2.low d h2; omega), fun d hd => ?_⟩
  rcases List.mem_append.1 hd with hd | hd
  · have := l1 d hd; omega
  · exact l2 d hd
theorem own2_swap {mid : Nat} (h1 : OwnIn c1 w mid hi a xs) (h2 : OwnIn c2 w lo mid b ys) (hlm : lo ≤ mid) (hmh : mid ≤ hi) : Own2 c1 c2 w lo hi a b xs ys := by
  obtain ⟨f1, s1, m1, l1⟩ := h1
  obtain ⟨f2, s2, m2, l2⟩ := h2
  refine ⟨f1, f2, s1, s2, (m1.mono hlm).app m2 (fun d h1 h2 => by have := l2 d h2; have := m1.low d h1; omega), fun d hd => ?_⟩
  rcases List.mem_append.1 hd with hd | hd
  · exact l1 d hd
  · have := l2 d hd; omega

/-- The first is marked, the second not yet. -/
def Half (p1 : PT) (c2 : Cod β) (w : World) (lo hi : Nat) (a b : Value) (ys : List β) (k L : Nat) (f1 f2 : List Nat) : Prop :=
  HeldF p1 w a f1 k L ∧ Cod.rdS c2 w b ys f2 ∧ Mine w lo f2 ∧ (∀ d ∈ f2, d < hi) ∧ ∀ d ∈ f2, d ∉ f1
theorem Half.below {k L : Nat} {f1 f2 : List Nat} (h : Half p1 c2 w lo hi a b ys k L f1 f2) (hb : Below w.heap.size w w') : Half p1 c2 w' lo hi a b ys k L f1 f2 := by
  obtain ⟨h1, h2, h3, h4, h5⟩ := h
  have hf := fun d hd => hb.block d (Cod.rdS_old _ h2 d hd)
  exact ⟨h1.below hb, Cod.rdS_frame _ hf h2, h3.frame hf, h4, h5⟩

theorem Own2.first (h : Own2 c1 c2 w lo hi a b xs ys) (F1 : Fits c1 p1 L1) : ∃ f1 f2, PT.okS p1 w a f1 ∧ Mine w 0 f1 ∧ (PT.planS p1 w a).length = sumN L1 xs ∧
    ∀ u k, Stored w u (PT.planS p1 w a) k → Half p1 c2 u lo hi a b ys k (sumN L1 xs) f1 f2 ∧ Turn lo hi w u := by
  obtain ⟨f1, f2, h1, h2, m, r⟩ := h
  have hs := F1.s h1
  have m1 : Mine w lo f1 := ⟨(List.nodup_append.1 m.nodup).1, fun d hd => m.low d (List.mem_append_left _ hd), fun d hd => m.free d (List.mem_append_left _ hd)⟩
  have m2 : Mine w lo f2 := ⟨(List.nodup_append.1 m.nodup).2.1, fun d hd => m.low d (List.mem_append_right _ hd), fun d hd => m.free d (List.mem_append_right _ hd)⟩
  have hdis : ∀ d ∈ f2, d ∉ f1 := fun d h2 h1 => (List.nodup_append.1 m.nodup).2.2 d h1 d h2 rfl
  refine ⟨f1, f2, hs.1, m1.mono (Nat.zero_le _), hs.2, fun u k st => ⟨?_, st.turn fun x hx => ?_⟩⟩
  · have hb : ∀ d ∈ f2, u.heap[d]? = w.heap[d]? := fun d hd => st.block d (Cod.rdS_old _ h2 d hd) fun x hx e => hdis d hd (e ▸ PT.planS_in hs.1 x hx)
    have hold := PT.okS_old hs.1
    have := PT.okS_stay hs.1 m1.nodup st.size (fun a ha hna => st.same a (hold _ ha) hna) (fun x hx => by
      obtain ⟨i, hi, rfl⟩ := List.getElem_of_mem hx
      exact ⟨_, st.val i hi⟩)
    exact ⟨⟨this.1, m1.nodup, by rw [this.2]; exact st.val, by rw [this.2]; exact hs.2⟩, Cod.rdS_frame _ hb h2, m2.frame hb, fun d hd => r d (List.mem_append_right _ hd), hdis⟩
  · have := PT.planS_in hs.1 x hx
    exact ⟨m1.low _ this, r _ (List.mem_append_left _ this)⟩

theorem Half.second {k L : Nat} {f1 f2 : List Nat} (h : Half p1 c2 w lo hi a b ys k L f1 f2) (F2 : Fits c2 p2 L2) : PT.okS p2 w b f2 ∧ Mine w 0 f2 ∧ (PT.planS p2 w b).length = sumN L2 ys ∧
    ∀ u k', Stored w u (PT.planS p2 w b) k' → HeldS p1 u a k L ∧ HeldS p2 u b k' (sumN L2 ys) ∧ Turn lo hi w u := by
  obtain ⟨h1, h2, m2, r2, hdis⟩ := h
  have hs := F2.s h2
  refine ⟨hs.1, m2.mono (Nat.zero_le _), hs.2, fun u k' st => ⟨?_, ?_, st.turn fun x hx => ?_⟩⟩
  · exact (h1.far st fun x hx => hdis _ (PT.planS_in hs.1 x hx)).held
  · rw [← hs.2]
    exact st.held hs.1 m2.nodup
  · have := PT.planS_in hs.1 x hx
    exact ⟨m2.low _ this, r2 _ this⟩
end

end Go.Proofs.YtpiheobpobclgaaGreatDoor
