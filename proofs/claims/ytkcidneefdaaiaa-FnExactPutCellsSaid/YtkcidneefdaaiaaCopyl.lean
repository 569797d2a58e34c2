/- Plain lemmas and contracts that all proofs of this seat lean on: bundle Copyl. -/
import Derived.Test.YtkcidneefdaaiaaRowd
import Derived.Lib.SliceRun
import Derived.Test.YtkcidneefdaaiaaTos
import Derived.Deep.RegionWith
import Derived.Deep.DeepCutAuto
import Derived.Deep.RegionLaw
import Derived.Test.YtkcidneefdaaiaaGoodr
import Derived.Test.YtkcidneefdaaiaaKit
/- slices.Clone of a list of string. Printed by mkclone.py. -/
namespace Go.Proofs.Ytkcidneefdaaiaa
open Go.RowKit

theorem Try_infoC_String : (Try.prog.info? 9).map (fun i => (i.zero, i.size, i.bytes)) = some (some (.string ⟨#[]⟩), 1, 16) := by kernel_rfl

end Go.Proofs.Ytkcidneefdaaiaa


/- slices.Clone of a list of impl.Write. Printed by mkclone.py. -/
namespace Go.Proofs.Ytkcidneefdaaiaa
open Go.RowKit

theorem Try_infoC_Write : (Try.prog.info? 45).map (fun i => (i.zero, i.size, i.bytes)) = some (some (.agg #[.string ⟨#[]⟩, .string ⟨#[]⟩, .bool false]), 3, 40) := by kernel_rfl

set_option maxRecDepth 100000 in
/-- slices.Clone -/
theorem cloneWrite_p (v : Value) (l : List WriteD) (hl : l.length ≤ 1048576) (w : World) (h : Rd Cod.write w v l) :
    Calls Try.prog 48 #[v] w fun e w' => ∃ v' cells, e = .returned v' ∧ PartC Cod.write w' w.heap.size 45 v' l.length l cells ∧ Below w.heap.size w w' := by
  obtain ⟨i0, hi, hz0, hz1, hz2⟩ := info_parts Try_infoC_Write
  have hr := Lib.hid h
  obtain ⟨p, c, rfl, _, _, hn⟩ : ∃ p c, v = .slice p l.length c ∧ l.length ≤ c ∧ c ≤ maxLen ∧ (p = none → c = 0) := by
    obtain ⟨fp, a', cap, hv, h1, h2, h3, _⟩ := h
    exact ⟨a', cap, hv, h1, h2, h3⟩
  rcases p with _ | ad
  · have hc0 := hn rfl
    subst hc0
    have hy : l = [] := List.eq_nil_of_length_eq_zero (by omega)
    subst hy
    clear h hn
    have heq := fun (W : World) (r : Option Addr) (n c : Nat) => Lib.run_eql_slice_nil (P := Try.prog) W 24 _ r n c 0 0 Try.underlying24
    go_enter Try.func48, Try.ntmps48
    go_wp2
    go_ret
    exact ⟨_, [], rfl, part_start (World.ownsRow_nil _ _ _ _), Below.refl _ _⟩
  · clear h hn
    obtain ⟨n, hn⟩ : ∃ n : Nat, l.length = n := ⟨_, rfl⟩
    have Hn := Lib.hid hn
    have hb : (0 + l.length) * 40 ≤ room := by unfold room; omega
    have Hb := Lib.hid hb
    have Hr2 : Hid (∀ (u : World), Below w.heap.size w u → Rd Cod.write u (.slice (some ad) n c) l) := Lib.hid fun u k => by have := hr.out.below k; rwa [hn] at this
    clear hb hr
    rw [hn]
    clear hn hl
    have heq := fun (W : World) (r : Option Addr) (n c : Nat) => Lib.run_eql_slice_nil (P := Try.prog) W 24 _ r n c 0 0 Try.underlying24
    go_enter Try.func48, Try.ntmps48
    go_wp2_with (at_builtin; refine wpList_append_flat (c := Cod.write) flat_write _ rfl _ _ 24 (by rfl) w.heap.size 45 i0 (.agg #[.string ⟨#[]⟩, .string ⟨#[]⟩, .bool false]) 40 Try.underlying24 hi hz0 hz1 hz2 rfl (by decide) (by decide) _ (.slice (some ⟨w.heap.size, 0, none⟩) 0 0) 0 [] [] (by rfl) (part_start (World.ownsRow_made _ _ _ (Nat.le_refl _) (by simp) rfl)) rfl (Below.refl _ _) (.slice (some ad) n c) l (by rfl) (Hr2.out _ (below_new _ _)) Hb.out (by simp) ?_)
    intro p' c' w' cells' hP hb'
    have HP := Lib.hid hP
    clear hP
    have hb2 : Below w.heap.size w w' := (below_new _ _).trans hb'
    clear hb'
    go_wp2
    go_ret
    have h3 := HP.out
    (try simp only [Nat.zero_add, List.nil_append] at h3 ⊢)
    exact ⟨_, _, rfl, by rw [← Hn.out]; exact h3, hb2⟩

/-- slices.Clone -/
theorem cloneWrite_any (v : Value) (l : List WriteD) (hl : l.length ≤ 1048576) (w : World) (h : Rd Cod.write w v l) :
    Calls Try.prog 48 #[v] w fun e w' => ∃ v', e = .returned v' ∧ Own Cod.write w' w.heap.size v' l ∧ Below w.heap.size w w' :=
  (cloneWrite_p v l hl w h).mono fun _ _ ⟨v', _, he, hp, hb⟩ => ⟨v', he, hp.own rfl, hb⟩

end Go.Proofs.Ytkcidneefdaaiaa


/- impl.copyRec, impl.copyEntries. Printed by mkcopy.py. -/
namespace Go.Proofs.Ytkcidneefdaaiaa
open Go.RowKit

end Go.Proofs.Ytkcidneefdaaiaa


/- impl.copyEntries. -/
namespace Go.Proofs.Ytkcidneefdaaiaa
open Go.RowKit

/-- What copyRec gives, inside an entry. -/
def EntRet (x : EntryD) (base : Nat) (e : Ending) (w' : World) : Prop :=
  ∃ pR cR pW cW f, e = .returned (.agg #[.int .i64 x.Rec.Kind, .int .i64 x.Rec.Txn, .int .i64 x.Rec.Time, .int .i64 x.Rec.Lead, .slice pR x.Rec.Reads.length cR, .slice pW x.Rec.Writes.length cW, .bool x.Rec.Yes]) ∧ Cod.entry.rd w' (lst [.int .i64 x.Term, .int .i64 x.Rec.Kind, .int .i64 x.Rec.Txn, .int .i64 x.Rec.Time, .int .i64 x.Rec.Lead, .slice pR x.Rec.Reads.length cR, .slice pW x.Rec.Writes.length cW, .bool x.Rec.Yes]) x f ∧ Mine w' base f
theorem entRet_of {x : EntryD} (zTerm : I64 x.Term) {base : Nat} {e : Ending} {w' : World} (h : ToRec x.Rec base e w') : EntRet x base e w' := by
  obtain ⟨pR, cR, pW, cW, f, he, hx, hm⟩ := h
  refine ⟨pR, cR, pW, cW, f, he, ⟨[], f, rfl, ⟨rfl, zTerm, rfl⟩, Cod.recd.ext (fun j _ => ?_) hx⟩, hm⟩
  show (lst _) j = (lst _) (1 + j)
  rw [Nat.add_comm]
  rfl

end Go.Proofs.Ytkcidneefdaaiaa


/- GoodCells, both. -/
namespace Go.Proofs.Ytkcidneefdaaiaa
open Go.RowKit

/-- Cell k's versions are good. -/
def VersAt (l : List CellD) (k : Nat) : Prop := ∀ h : k < l.length, GoodV l[k].Vers
/-- Whether the cells are good. -/
def GoodC (l : List CellD) : Prop := l.length ≤ 24 ∧ (∀ k, k < l.length → VersAt l k) ∧ Rising (l.map fun x => x.Key)
noncomputable def goodCB (l : List CellD) : Bool := pB (GoodC l)
/-- Cell k is good and behind the one ahead of it. -/
def CellAtK (l : List CellD) (k : Nat) : Prop := ∀ h : k < l.length, (GoodV l[k].Vers ∧ keyB l[k].Key = true) ∧ ∀ m (hm : m + 1 = k), ltB (l[m]'(by omega)).Key l[k].Key = true
def KeyAt (l : List CellD) (k : Nat) : Prop := ∀ h : k < l.length, ∀ m (hm : m + 1 = k), ltB (l[m]'(by omega)).Key l[k].Key = true

theorem goodC_iff (l : List CellD) : GoodC l ↔ l.length ≤ 24 ∧ ∀ k, k < l.length → CellAtK l k := by
  constructor
  · rintro ⟨h0, h1, h2⟩
    refine ⟨h0, fun k hk _ => ?_⟩
    have h3 := h2 k (by simpa using hk) (by simpa using hk)
    refine ⟨⟨h1 k hk hk, by simpa using h3.1⟩, fun m hm => ?_⟩
    simpa using h3.2 m hm
  · rintro ⟨h0, h1⟩
    refine ⟨h0, fun k hk _ => (h1 k hk hk).1.1, fun k hk hk2 => ?_⟩
    have hkl : k < l.length := by simpa using hk
    have h3 := h1 k hkl hkl
    refine ⟨by simpa using h3.1.2, fun m hm => ?_⟩
    simpa using h3.2 m hm

theorem vers_le {l : List CellD} (hl : costCellS l ≤ 1048576) {k : Nat} (hk : k < l.length) : l[k].Vers.length ≤ 1048576 := by
  have h2 := sumC_get costCell l k hk
  unfold costCellS at hl
  have h3 : l[k].Vers.length ≤ costCell l[k] := by unfold costCell costVerS; omega
  omega

set_option maxRecDepth 100000 in
set_option maxHeartbeats 3200000 in
/-- spec.l3Good -/
theorem l3Good_any (v : Value) (l : List CellD) (hl : costCellS l ≤ 1048576) (w : World) (h : Rd Cod.cell w v l) :
    Calls Try.prog 30 #[v] w fun e w' => e = .returned (.bool (goodCB l)) ∧ Below w.heap.size w w' := by
  obtain ⟨p, c, rfl, _, _, r⟩ := h.form
  have R := Lib.hid r
  have Hl := Lib.hid hl
  clear r h
  obtain ⟨n, hn⟩ : ∃ n : Nat, l.length = n := ⟨_, rfl⟩
  have Hn0 := Lib.hid hn
  have hnb : (n : Int) ≤ 1048576 := by unfold costCellS at hl; omega
  rw [hn]
  clear hn hl
  go_enter Try.func30, Try.ntmps30
  go_wp2
  go_loopw [7] (fun i wr => ∃ k : Nat, i = .int .i64 (k : Int) ∧ k ≤ n ∧ Hid (∀ j, j < k → CellAtK l j) ∧ Below w.heap.size w wr) (fun i _ => n - (intOf i).toNat)
  case atStart => exact ⟨0, rfl, Nat.zero_le _, Lib.hid (fun j h => by omega), Below.refl _ _⟩
  case round =>
    obtain ⟨k, rfl, hk, Hall, hb⟩ := hrel
    by_cases hlt : k < n
    · have hlt2 : (k : Int) < (n : Int) := by omega
      have hkl : k < l.length := by have := Hn0.out; omega
      obtain ⟨g, o, rfl, hg, hc⟩ := R.out (by have := Hn0.out; omega)
      have at0 := (hc k hkl).below hg hb
      have hgl : g < wr.heap.size := by have := hb.size; omega
      have hgl' : g < wr.heap.size + 1 := by omega
      have hvl := vers_le Hl.out hkl
      have Hb0 : Hid (pB (GoodV l[k].Vers ∧ keyB l[k].Key = true) = false → goodCB l = false) := Lib.hid fun h => pB_false fun hr => by
        have := pB_true (((goodC_iff l).1 hr).2 k hkl hkl).1
        rw [h] at this
        cases this
      have Hn : Hid (pB (GoodV l[k].Vers ∧ keyB l[k].Key = true) = true → KeyAt l k → ∀ j, j < k + 1 → CellAtK l j) := Lib.hid fun h1 h2 j hj => by
        by_cases e : j = k
        · subst e
          exact fun h' => ⟨pB_iff.1 h1, h2 h'⟩
        · exact Hall.out j (by omega)
      by_cases hk0 : k = 0
      · have hd : decide (0 < k) = false := by simp; omega
        have Ho : Hid (KeyAt l k) := Lib.hid fun _ m hm => by omega
        obtain ⟨y, es⟩ : ∃ y, l[k] = y := ⟨_, rfl⟩
        rw [es] at at0 Hb0 Hn hvl
        obtain ⟨d0, ⟨u, d1, ru⟩, z0⟩ := at_cell at0
        obtain ⟨pu, cu, rfl, _⟩ := ru.form
        rw [show o + k * Cod.cell.size = o + k * 2 from rfl] at *
        have Hc0 := Lib.hid (fun (W : World) => l3Cell_any y z0 (ext (wr.heap.size + 1) (wr.alloc (.cells #[.string y.Key, .slice pu y.Vers.length cu] 57)) W) _ (ru.below ((below_new _ _).trans ((ext_below _ _ _).mono (by simp)))) hvl)
        clear hc es hkl at0 z0 hk0 hvl
        generalize pB (GoodV y.Vers ∧ keyB y.Key = true) = c0 at *
        cases c0
        · have Hq := Lib.hid (Hb0.out (by first | rfl | trivial))
          go_wp2_with fail
          have hx2 := fun (u : World) (b o : Nat) (h : b < wr.heap.size + 1) => ext_cell (wr.alloc (.cells #[.string y.Key, .slice pu y.Vers.length cu] 57)) u b o h
          refine wp_region_ext (by kernel_rfl) (by kernel_rfl) (wr.heap.size + 1) ?_
          repeat (any_goals (go_big_quiet_step ((go_at_call 53; exact calls_ext (by first | (simp; done) | omega | (simp; omega)) (Hc0.out _)))))
          refine wpQuiet_nil ?_
          intro w2 hb2
          clear hx2
          go_wp2
          go_ret
          exact ⟨ret_bool (by rw [Hq.out]), (below_alloc _ hb).trans (hb2.mono (by have := hb.size; omega))⟩
        have Hq := Lib.hid (Hn.out (by first | rfl | trivial) Ho.out)
        go_wp2_with fail
        have hx2 := fun (u : World) (b o : Nat) (h : b < wr.heap.size + 1) => ext_cell (wr.alloc (.cells #[.string y.Key, .slice pu y.Vers.length cu] 57)) u b o h
        refine wp_region_ext (by kernel_rfl) (by kernel_rfl) (wr.heap.size + 1) ?_
        repeat (any_goals (go_big_quiet_step ((go_at_call 53; exact calls_ext (by first | (simp; done) | omega | (simp; omega)) (Hc0.out _)))))
        refine wpQuiet_nil ?_
        intro w2 hb2
        clear hx2
        go_wp2
        go_roundw
        case rel => exact ⟨k + 1, by go_num, by omega, Hq, (below_alloc _ hb).trans (hb2.mono (by have := hb.size; omega))⟩
        case measure => simp [intOf]; omega
      · obtain ⟨m, hm⟩ : ∃ m, m + 1 = k := ⟨k - 1, by omega⟩
        have Hm := Lib.hid hm
        have hml : m < l.length := by omega
        have at1 := (hc m hml).below hg hb
        have Hbo : Hid (¬ (ltB l[m].Key l[k].Key = true) → goodCB l = false) := Lib.hid fun h => pB_false fun hr => h ((((goodC_iff l).1 hr).2 k hkl hkl).2 m hm)
        have Hlt : Hid (ltB l[m].Key l[k].Key = true → KeyAt l k) := Lib.hid fun h _ m' hm' => by
          obtain rfl : m' = m := by omega
          exact h
        have hd : decide (0 < k) = true := by simp; omega
        have hkm : IntKind.i64.wrap ((k : Int) - 1) = (m : Int) := by rw [IntWalk.i64_in _ (by omega)]; omega
        have hmn : (m : Int) < (n : Int) := by omega
        have hm0 : (0 : Int) ≤ (m : Int) := by omega
        obtain ⟨y, es⟩ : ∃ y, l[k] = y := ⟨_, rfl⟩
        obtain ⟨z, et⟩ : ∃ z, l[m] = z := ⟨_, rfl⟩
        rw [es] at at0 Hb0 Hbo Hn Hlt hvl
        rw [et] at at1 Hbo Hlt
        obtain ⟨d0, ⟨u, d1, ru⟩, z0⟩ := at_cell at0
        obtain ⟨pu, cu, rfl, _⟩ := ru.form
        have e0 := (at_cell at1).1
        rw [show o + k * Cod.cell.size = o + k * 2 from rfl] at *
        rw [show o + m * Cod.cell.size = o + m * 2 from rfl] at *
        have Hc0 := Lib.hid (fun (W : World) => l3Cell_any y z0 (ext (wr.heap.size + 1) (wr.alloc (.cells #[.string y.Key, .slice pu y.Vers.length cu] 57)) W) _ (ru.below ((below_new _ _).trans ((ext_below _ _ _).mono (by simp)))) hvl)
        clear hc es et at0 at1 z0 hk0 hm hml hkl hvl
        generalize pB (GoodV y.Vers ∧ keyB y.Key = true) = c0 at *
        cases c0
        · have Hq := Lib.hid (Hb0.out (by first | rfl | trivial))
          go_wp2_with fail
          have hx2 := fun (u : World) (b o : Nat) (h : b < wr.heap.size + 1) => ext_cell (wr.alloc (.cells #[.string y.Key, .slice pu y.Vers.length cu] 57)) u b o h
          refine wp_region_ext (by kernel_rfl) (by kernel_rfl) (wr.heap.size + 1) ?_
          repeat (any_goals (go_big_quiet_step ((go_at_call 53; exact calls_ext (by first | (simp; done) | omega | (simp; omega)) (Hc0.out _)))))
          refine wpQuiet_nil ?_
          intro w2 hb2
          clear hx2 hkm
          go_wp2
          go_ret
          exact ⟨ret_bool (by rw [Hq.out]), (below_alloc _ hb).trans (hb2.mono (by have := hb.size; omega))⟩
        by_cases hord : ltB z.Key y.Key = true
        · have Hq := Lib.hid (Hn.out (by first | rfl | trivial) (Hlt.out hord))
          have hlb : Op.bytesLess z.Key.toList y.Key.toList = true := hord
          go_wp2_with fail
          have hx2 := fun (u : World) (b o : Nat) (h : b < wr.heap.size + 1) => ext_cell (wr.alloc (.cells #[.string y.Key, .slice pu y.Vers.length cu] 57)) u b o h
          refine wp_region_ext (by kernel_rfl) (by kernel_rfl) (wr.heap.size + 1) ?_
          repeat (any_goals (go_big_quiet_step ((go_at_call 53; exact calls_ext (by first | (simp; done) | omega | (simp; omega)) (Hc0.out _)))))
          refine wpQuiet_nil ?_
          intro w2 hb2
          clear hx2 hkm
          go_wp2
          go_roundw
          case rel => exact ⟨k + 1, by go_num, by omega, Hq, (below_alloc _ hb).trans (hb2.mono (by have := hb.size; omega))⟩
          case measure => simp [intOf]; omega
        · have Hq := Lib.hid (Hbo.out hord)
          have hlb : Op.bytesLess z.Key.toList y.Key.toList = false := (show ltB z.Key y.Key = false from Bool.eq_false_iff.2 hord)
          go_wp2_with fail
          have hx2 := fun (u : World) (b o : Nat) (h : b < wr.heap.size + 1) => ext_cell (wr.alloc (.cells #[.string y.Key, .slice pu y.Vers.length cu] 57)) u b o h
          refine wp_region_ext (by kernel_rfl) (by kernel_rfl) (wr.heap.size + 1) ?_
          repeat (any_goals (go_big_quiet_step ((go_at_call 53; exact calls_ext (by first | (simp; done) | omega | (simp; omega)) (Hc0.out _)))))
          refine wpQuiet_nil ?_
          intro w2 hb2
          clear hx2 hkm
          go_wp2
          go_ret
          exact ⟨ret_bool (by rw [Hq.out]), (below_alloc _ hb).trans (hb2.mono (by have := hb.size; omega))⟩
    · have hlt2 : (n : Int) ≤ (k : Int) := by omega
      obtain rfl : k = n := by omega
      by_cases h24 : k ≤ 24
      · have h25 : (k : Int) ≤ 24 := by omega
        have Hq : Hid (goodCB l = true) := Lib.hid (pB_true ((goodC_iff l).2 ⟨by have := Hn0.out; omega, fun j hj => Hall.out j (by have := Hn0.out; omega)⟩))
        go_wp2
        go_ret
        exact ⟨ret_bool (by rw [Hq.out]), hb⟩
      · have h25 : (24 : Int) < (k : Int) := by omega
        have Hq : Hid (goodCB l = false) := Lib.hid (pB_false fun hr => by have := hr.1; have := Hn0.out; omega)
        go_wp2
        go_ret
        exact ⟨ret_bool (by rw [Hq.out]; first | rfl | (simp; omega)), hb⟩

set_option maxRecDepth 100000 in
set_option maxHeartbeats 1600000 in
/-- impl.GoodCells -/
theorem goodCells_any (v : Value) (l : List CellD) (hl : costCellS l ≤ 1048576) (w : World) (h : Rd Cod.cell w v l) :
    Calls Try.prog 34 #[v] w fun e w' => e = .returned (.bool (goodCB l)) ∧ Below w.heap.size w w' := by
  obtain ⟨i0, hi, hz0, hz1, hz2⟩ := info_parts Try_info_str
  obtain ⟨p, c, rfl, _, _, r⟩ := h.form
  have R := Lib.hid r
  have Hl := Lib.hid hl
  clear r h
  obtain ⟨n, hn⟩ : ∃ n : Nat, l.length = n := ⟨_, rfl⟩
  have Hn := Lib.hid hn
  have hnb : (n : Int) ≤ 1048576 := by unfold costCellS at hl; omega
  rw [hn]
  clear hn hl
  go_enter Try.func34, Try.ntmps34
  go_wp2
  go_loopw [3, 9] (fun a i wr => ∃ k : Nat, i = .int .i64 (k : Int) ∧ k ≤ n ∧ Hid (Part Cod.str wr w.heap.size 9 a k ((l.map fun x => x.Key).take k)) ∧ Hid (∀ j, j < k → VersAt l j) ∧ Below w.heap.size w wr) (fun _ i _ => n - (intOf i).toNat)
  case atStart => exact ⟨0, rfl, Nat.zero_le _, Lib.hid ⟨_, part_start (World.ownsRow_made _ _ _ (Nat.le_refl _) (by simp) rfl)⟩, Lib.hid (fun j h => by omega), below_new _ _⟩
  case round =>
    obtain ⟨k, rfl, hk, Hp, Hall, hb⟩ := hrel
    have hbs := hb.size
    by_cases hlt : k < n
    · have hlt2 : (k : Int) < (n : Int) := by omega
      have hkl : k < l.length := by have := Hn.out; omega
      have Hkl : Hid (((l.map fun x => x.Key).take k).length = k) := Lib.hid (by rw [List.length_take, List.length_map]; omega)
      obtain ⟨g, o, rfl, hg, hc⟩ := R.out (by have := Hn.out; omega)
      have at0 := (hc k hkl).below hg hb
      have hvl := vers_le Hl.out hkl
      have Ht : Hid ((l.map fun x => x.Key).take (k + 1) = (l.map fun x => x.Key).take k ++ [l[k].Key]) := Lib.hid (by rw [List.take_succ_eq_append_getElem (by rw [List.length_map]; exact hkl), List.getElem_map])
      have Hb0 : Hid (pB (GoodV l[k].Vers) = false → goodCB l = false) := Lib.hid fun h => pB_false fun hr => by
        have := pB_true (hr.2.1 k hkl hkl)
        rw [h] at this
        cases this
      have Hnx : Hid (pB (GoodV l[k].Vers) = true → ∀ j, j < k + 1 → VersAt l j) := Lib.hid fun h1 j hj => by
        by_cases e : j = k
        · subst e
          exact fun _ => pB_iff.1 h1
        · exact Hall.out j (by omega)
      obtain ⟨x, es⟩ : ∃ x, l[k] = x := ⟨_, rfl⟩
      rw [es] at at0 Ht hvl Hb0 Hnx
      obtain ⟨d0, ⟨u, d1, ru⟩, z0⟩ := at_cell at0
      obtain ⟨pu, cu, rfl, _⟩ := ru.form
      rw [show o + k * Cod.cell.size = o + k * 2 from rfl] at *
      have Hc0 := Lib.hid (fun (W : World) (r : Rd Cod.ver W (.slice pu x.Vers.length cu) x.Vers) => isCell_any x W _ r hvl)
      clear hc es hkl at0 hvl
      have Hroom : Hid ((k + 1) * 16 ≤ room) := Lib.hid (by unfold room; omega)
      obtain ⟨cells, Pc⟩ := Hp.out
      have Pc := Lib.hid Pc
      clear Hp
      generalize pB (GoodV x.Vers) = q at *
      cases q
      · have Hq := Lib.hid (Hb0.out (by first | rfl | trivial))
        go_wp2_with fail
        refine (Hc0.out _ (ru.below (by (repeat (first | (with_reducible exact Below.refl _ _) | (with_reducible refine below_setCell ?_ (by first | (simp; done) | (simp; omega) | omega)) | (with_reducible refine below_alloc _ ?_) | (with_reducible refine below_drewN ?_ _) | (with_reducible assumption) | (with_reducible refine below_after (by assumption) ?_)))))).mono ?_
        rintro e w1 ⟨rfl, k1⟩
        go_wp2
        go_ret
        exact ⟨ret_bool (by rw [Hq.out]), below_after k1 (below_alloc _ hb)⟩
      · have Hq := Lib.hid (Hnx.out (by first | rfl | trivial))
        clear Hnx Hb0
        go_wp2_with fail
        refine (Hc0.out _ (ru.below (by (repeat (first | (with_reducible exact Below.refl _ _) | (with_reducible refine below_setCell ?_ (by first | (simp; done) | (simp; omega) | omega)) | (with_reducible refine below_alloc _ ?_) | (with_reducible refine below_drewN ?_ _) | (with_reducible assumption) | (with_reducible refine below_after (by assumption) ?_)))))).mono ?_
        rintro e w1 ⟨rfl, k1⟩
        have c0 : w1.cell? ⟨wr.heap.size, 0, none⟩ = some (.string x.Key) := by rw [(bcell k1).1 _ _ (by simp)]; simp [go_sem]
        have hsz : wr.heap.size < w1.heap.size := by have := k1.size; simp at this; omega
        have b1 : Below w.heap.size w w1 := below_after k1 (below_alloc _ hb)
        have m1 : Below wr.heap.size wr w1 := below_after k1 (below_new _ _)
        clear k1
        go_wp2_with (at_builtin; refine wpList_append_part (c := Cod.str) w1 rfl _ _ 66 (by rfl) w.heap.size 9 9 i0 (.string ⟨#[]⟩) 16 Try.underlying66 hi hz0 hz1 hz2 rfl (by decide) (by decide) wr _ k _ cells (by rfl) Pc.out Hkl.out m1 x.Key [] [.string x.Key] rfl ⟨rfl, z0, rfl⟩ (Mine.nil _ _) w1.heap.size rfl (by rfl) (by simp [Value.oneCell']) Hroom.out hbs ?_)
        intro g' cap' w3 hp3 hb3
        have Hp3 := Lib.hid hp3
        have hb4 : Below w.heap.size w w3 := b1.trans hb3
        clear hp3 hb3 Pc b1 m1
        go_wp2
        go_roundw
        case rel => exact ⟨k + 1, by go_num, by omega, Lib.hid (by rw [Ht.out]; exact Hp3.out), Hq, hb4⟩
        case measure => simp [intOf]; omega
    · have hlt2 : (n : Int) ≤ (k : Int) := by omega
      obtain rfl : k = n := by omega
      by_cases h24 : k ≤ 24
      · have h25 : (k : Int) ≤ 24 := by omega
        have h1 := Hp.out
        rw [List.take_of_length_le (by rw [List.length_map]; have := Hn.out; omega)] at h1
        have r1 := (h1.own (by rw [List.length_map]; exact Hn.out)).rd
        have Hr := Lib.hid (fun (W : World) (b : Below wr.heap.size wr W) => areRising_any _ (l.map fun x => x.Key) (by rw [List.length_map]; have := Hn.out; omega) W (r1.below b))
        obtain ⟨pa, ca, hv, _⟩ := r1.form
        rw [List.length_map, Hn.out] at hv
        subst hv
        have Hq : Hid (goodCB l = pB (Rising (l.map fun x => x.Key))) := Lib.hid (pB_congr ⟨fun h => h.2.2, fun h => ⟨by have := Hn.out; omega, fun j hj => Hall.out j (by have := Hn.out; omega), h⟩⟩)
        clear h1 r1 Hp
        generalize pB (Rising (l.map fun x => x.Key)) = q at *
        go_wp2_with fail
        refine (Hr.out _ (by (repeat (first | (with_reducible exact Below.refl _ _) | (with_reducible refine below_setCell ?_ (by first | (simp; done) | (simp; omega) | omega)) | (with_reducible refine below_alloc _ ?_) | (with_reducible refine below_drewN ?_ _) | (with_reducible assumption) | (with_reducible refine below_after (by assumption) ?_))))).mono ?_
        rintro e w1 ⟨rfl, k1⟩
        go_wp2
        go_ret
        exact ⟨ret_bool (by rw [Hq.out]), below_after k1 hb⟩
      · have h25 : (24 : Int) < (k : Int) := by omega
        have Hq : Hid (goodCB l = false) := Lib.hid (pB_false fun hr => by have := hr.1; have := Hn.out; omega)
        clear Hp
        go_wp2
        go_ret
        exact ⟨ret_bool (by rw [Hq.out]), hb⟩

end Go.Proofs.Ytkcidneefdaaiaa


/- Versions trimmed: the plain law. No program. -/
namespace Go.Proofs.Ytkcidneefdaaiaa
open Go.RowKit

def headLe (fl : Int) : List VerD → Bool
  | [] => false
  | v :: _ => decide (v.Time ≤ fl)
/-- What is kept of versions. -/
def keepV (fl : Int) : List VerD → List VerD
  | [] => []
  | v :: vs => if (decide (fl < v.Time) || (!headLe fl vs && !v.Gone)) = true then v :: keepV fl vs else keepV fl vs
/-- The last index with a time of at most fl. -/
def lastF (fl : Int) : List VerD → Nat → Nat → Nat
  | [], _, c => c
  | v :: vs, j, c => lastF fl vs (j + 1) (if v.Time ≤ fl then j else c)

/-- Times that rise: the first m are at most fl, the others later. -/
def CutAt (fl : Int) : List VerD → Nat → Prop
  | [], m => m = 0
  | v :: vs, 0 => fl < v.Time ∧ CutAt fl vs 0
  | v :: vs, m + 1 => v.Time ≤ fl ∧ CutAt fl vs m

theorem CutAt.le {fl : Int} : ∀ {vs : List VerD} {m : Nat}, CutAt fl vs m → m ≤ vs.length
  | [], m, h => by rw [show m = 0 from h]; exact Nat.le_refl _
  | _ :: _, 0, _ => Nat.zero_le _
  | _ :: vs, m + 1, h => by have := CutAt.le h.2; simp; omega
theorem CutAt.head {fl : Int} : ∀ {vs : List VerD} {m : Nat}, CutAt fl vs m → headLe fl vs = decide (0 < m)
  | [], m, h => by rw [show m = 0 from h]; rfl
  | v :: _, 0, h => by simp only [headLe]; rw [decide_eq_false (by have := h.1; omega)]; rfl
  | v :: _, m + 1, h => by simp only [headLe]; rw [decide_eq_true h.1]; simp
theorem keepV_zero {fl : Int} : ∀ {vs : List VerD}, CutAt fl vs 0 → keepV fl vs = vs
  | [], _ => rfl
  | v :: vs, h => by
    unfold keepV
    rw [if_pos (by rw [decide_eq_true h.1]; rfl), keepV_zero h.2]
theorem keepV_succ {fl : Int} : ∀ {vs : List VerD} {m : Nat} (_ : CutAt fl vs (m + 1)) (hm : m < vs.length), keepV fl vs = if vs[m].Gone then vs.drop (m + 1) else vs.drop m
  | [], _, h, _ => by cases h
  | v :: vs, 0, h, _ => by
    have hd := h.2.head
    unfold keepV
    rw [hd, decide_eq_false (by have := h.1; omega), keepV_zero h.2]
    cases hg : v.Gone <;> simp [hg]
  | v :: vs, m + 1, h, hm => by
    have hd := h.2.head
    unfold keepV
    rw [hd, decide_eq_false (by have := h.1; omega), keepV_succ h.2 (by simpa using hm)]
    simp
theorem lastF_of {fl : Int} : ∀ {vs : List VerD} {m : Nat} (j c : Nat), CutAt fl vs m → lastF fl vs j c = if m = 0 then c else j + m - 1
  | [], m, j, c, h => by rw [show m = 0 from h]; rfl
  | v :: vs, 0, j, c, h => by
    unfold lastF
    rw [if_neg (by have := h.1; omega), lastF_of (j + 1) c h.2]
    rfl
  | v :: vs, m + 1, j, c, h => by
    unfold lastF
    rw [if_pos h.1, lastF_of (j + 1) j h.2]
    by_cases hm : m = 0
    · subst hm; rw [if_pos rfl, if_neg (by omega)]; omega
    · rw [if_neg hm, if_neg (by omega)]; omega

/-- Times rise. -/
def RiseV (vs : List VerD) : Prop := ∀ j (h : j + 1 < vs.length), (vs[j]'(by omega)).Time < vs[j + 1].Time
theorem RiseV.tail {v : VerD} {vs : List VerD} (h : RiseV (v :: vs)) : RiseV vs := fun j hj => h (j + 1) (by simpa using hj)
theorem RiseV.zero {fl : Int} : ∀ {vs : List VerD}, RiseV vs → headLe fl vs = false → CutAt fl vs 0
  | [], _, _ => rfl
  | v :: vs, h, hd => by
    have h1 : fl < v.Time := by simpa [headLe] using hd
    refine ⟨h1, RiseV.zero h.tail ?_⟩
    cases vs with
    | nil => rfl
    | cons v' vs =>
      have := h 0 (by simp)
      simp only [headLe, decide_eq_false_iff_not]
      simp at this
      omega
theorem RiseV.cut {fl : Int} : ∀ {vs : List VerD}, RiseV vs → ∃ m, CutAt fl vs m
  | [], _ => ⟨0, rfl⟩
  | v :: vs, h => by
    by_cases hv : v.Time ≤ fl
    · obtain ⟨m, hm⟩ := RiseV.cut (fl := fl) h.tail
      exact ⟨m + 1, hv, hm⟩
    · exact ⟨0, h.zero (by simp only [headLe, decide_eq_false_iff_not]; exact hv)⟩

theorem riseV_of {vs : List VerD} (h : GoodV vs) : RiseV vs := fun j hj => (h.2 (j + 1) hj hj).2.2 j rfl

/-- How the program finds where the kept ones begin. -/
theorem keepV_first {fl : Int} {vs : List VerD} (h : RiseV vs) (hp : 0 < vs.length) : ∃ f, ∃ hf : f < vs.length, lastF fl vs 0 0 = f ∧ keepV fl vs = if vs[f].Time ≤ fl ∧ vs[f].Gone = true then vs.drop (f + 1) else vs.drop f := by
  obtain ⟨m, hm⟩ := h.cut (fl := fl)
  have hl := hm.le
  rw [lastF_of 0 0 hm]
  cases m with
  | zero =>
    refine ⟨0, hp, rfl, ?_⟩
    rw [keepV_zero hm]
    cases vs with
    | nil => simp at hp
    | cons v vs =>
      have := hm.1
      rw [if_neg (by simp; omega)]
      rfl
  | succ m =>
    refine ⟨m, by omega, by simp, ?_⟩
    rw [keepV_succ hm (by omega)]
    have ht : ∀ {vs : List VerD} {m : Nat} (h : CutAt fl vs (m + 1)) (hm : m < vs.length), vs[m].Time ≤ fl := by
      intro vs m
      induction m generalizing vs with
      | zero => intro h hm; cases vs with
        | nil => cases h
        | cons v vs => exact h.1
      | succ m ih => intro h hm; cases vs with
        | nil => cases h
        | cons v vs => exact ih h.2 (by simpa using hm)
    have ht1 := ht hm (by omega)
    cases hg : vs[m].Gone <;> simp [ht1, hg]

theorem keepV_length (fl : Int) (vs : List VerD) : (keepV fl vs).length ≤ vs.length := by
  induction vs with
  | nil => exact Nat.le_refl _
  | cons v vs ih =>
    unfold keepV
    split
    · simp; omega
    · simp; omega
theorem costVerS_keep (fl : Int) (vs : List VerD) : costVerS (keepV fl vs) ≤ costVerS vs := by
  unfold costVerS
  have h1 := keepV_length fl vs
  have h2 : sumC costVer (keepV fl vs) ≤ sumC costVer vs := by
    induction vs with
    | nil => exact Nat.le_refl _
    | cons v vs ih =>
      have := ih (keepV_length fl vs)
      unfold keepV
      split
      · show costVer v + sumC costVer (keepV fl vs) ≤ costVer v + sumC costVer vs; omega
      · show _ ≤ costVer v + sumC costVer vs; omega
  omega

/-- A cell trimmed: none if no version is left. -/
def trimC (fl : Int) (c : CellD) : List CellD := if (keepV fl c.Vers).length = 0 then [] else [⟨c.Key, keepV fl c.Vers⟩]
def trimL (fl : Int) : List CellD → List CellD
  | [] => []
  | c :: l => trimC fl c ++ trimL fl l
theorem trimL_take (fl : Int) (l : List CellD) (k : Nat) (h : k < l.length) : trimL fl (l.take (k + 1)) = trimL fl (l.take k) ++ trimC fl l[k] := by
  have happ : ∀ a b : List CellD, trimL fl (a ++ b) = trimL fl a ++ trimL fl b := by
    intro a b
    induction a with
    | nil => rfl
    | cons x a ih => show trimC fl x ++ trimL fl (a ++ b) = _; rw [ih]; simp [trimL]
  rw [List.take_succ_eq_append_getElem h, happ]
  simp [trimL]
theorem trimL_cost (fl : Int) (l : List CellD) : costCellS (trimL fl l) ≤ costCellS l ∧ (trimL fl l).length ≤ l.length := by
  have h1 : (trimL fl l).length ≤ l.length ∧ sumC costCell (trimL fl l) ≤ sumC costCell l := by
    induction l with
    | nil => exact ⟨Nat.le_refl _, Nat.le_refl _⟩
    | cons c l ih =>
      unfold trimL trimC
      split
      · refine ⟨by simp; omega, ?_⟩
        show _ ≤ costCell c + sumC costCell l
        rw [List.nil_append]; omega
      · refine ⟨by simp; omega, ?_⟩
        show costCell ⟨c.Key, keepV fl c.Vers⟩ + sumC costCell (trimL fl l) ≤ costCell c + sumC costCell l
        have h2 : costCell ⟨c.Key, keepV fl c.Vers⟩ ≤ costCell c := by
          have := costVerS_keep fl c.Vers
          unfold costCell
          simp only
          omega
        omega
  unfold costCellS
  omega

end Go.Proofs.Ytkcidneefdaaiaa


/- spec.l3Trim. -/
namespace Go.Proofs.Ytkcidneefdaaiaa
open Go.RowKit

theorem Try_infoT_ver : (Try.prog.info? 77).map (fun i => (i.zero, i.size, i.bytes)) = some (some (.agg #[.int .i64 0, .string ⟨#[]⟩, .bool false]), 3, 32) := by kernel_rfl
theorem Try_infoT_cell : (Try.prog.info? 57).map (fun i => (i.zero, i.size, i.bytes)) = some (some (.agg #[.string ⟨#[]⟩, .slice none 0 0]), 2, 40) := by kernel_rfl

/-- A value that is a row being built, as long as what it holds. -/
def Grow {α : Type} (c : Cod α) (w : World) (base : Nat) (e : TypeId) (v : Value) (xs : List α) : Prop := Part c w base e v xs.length xs
theorem Grow.below {α : Type} {c : Cod α} {w w' : World} {base : Nat} {e : TypeId} {v : Value} {xs : List α} (h : Grow c w base e v xs) (k : Below w.heap.size w w') : Grow c w' base e v xs := Part.below h k
theorem Grow.form {α : Type} {c : Cod α} {w : World} {base : Nat} {e : TypeId} {v : Value} {xs : List α} (h : Grow c w base e v xs) : ∃ p cap, v = .slice p xs.length cap := by
  obtain ⟨cells, h⟩ := h
  exact h.form
theorem grow_nil {α : Type} (c : Cod α) (w : World) (base : Nat) (e : TypeId) : Grow c w base e (.slice none 0 0) [] := ⟨[], part_start (World.ownsRow_nil w base e c.size)⟩
theorem Grow.own {α : Type} {c : Cod α} {w : World} {base : Nat} {e : TypeId} {v : Value} {xs : List α} (h : Grow c w base e v xs) : Own c w base v xs := Part.own h rfl

end Go.Proofs.Ytkcidneefdaaiaa


/- spec.l9OwnLog. -/
namespace Go.Proofs.Ytkcidneefdaaiaa
open Go.RowKit

theorem Try_infoO_str : (Try.prog.info? 9).map (fun i => (i.zero, i.size, i.bytes)) = some (some (.string ⟨#[]⟩), 1, 16) := by kernel_rfl
theorem Try_infoO_write : (Try.prog.info? 45).map (fun i => (i.zero, i.size, i.bytes)) = some (some (.agg #[.string ⟨#[]⟩, .string ⟨#[]⟩, .bool false]), 3, 40) := by kernel_rfl

end Go.Proofs.Ytkcidneefdaaiaa

