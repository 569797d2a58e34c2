/- Plain lemmas and contracts that all proofs of this seat lean on: bundle Advb. -/
import Derived.Test.YtfaefjdlfjhniaaCopytob
import Derived.Test.YtfaefjdlfjhniaaRowd
import Derived.Test.YtfaefjdlfjhniaaLogg
import Derived.Test.YtfaefjdlfjhniaaElectb
import Derived.Test.YtfaefjdlfjhniaaEqent
import Derived.Test.YtfaefjdlfjhniaaSafeb
import Derived.Test.YtfaefjdlfjhniaaCopyl
/- What Advance answers. Printed by mkadv.py. -/
namespace Go.Proofs.Ytfaefjdlfjhniaa
open Go.RowKit

/-- The greatest number above s, at most n, at which f is true; s where none is. -/
def advN (f : Nat → Bool) (s : Nat) : Nat → Nat
  | 0 => s
  | n + 1 => if n + 1 ≤ s then s else if f (n + 1) then n + 1 else advN f s n
theorem advN_stop (f : Nat → Bool) (s : Nat) : advN f s s = s := by
  cases s with
  | zero => rfl
  | succ n => unfold advN; rw [if_pos (Nat.le_refl _)]
theorem advN_no {f : Nat → Bool} {s n : Nat} (h : s < n + 1) (hf : f (n + 1) = false) : advN f s (n + 1) = advN f s n := by
  rw [advN, if_neg (by omega), hf]; rfl
theorem advN_yes {f : Nat → Bool} {s n : Nat} (h : s < n + 1) (hf : f (n + 1) = true) : advN f s (n + 1) = n + 1 := by
  rw [advN, if_neg (by omega), hf]; rfl
theorem advN_le (f : Nat → Bool) {s : Nat} : ∀ n, advN f s n ≤ max s n
  | 0 => by rw [advN]; omega
  | n + 1 => by
    have := advN_le f (s := s) n
    rw [advN]
    split
    · omega
    · split <;> omega
/-- Whether entry n of the leader's log is of this term and held by most. -/
noncomputable def advF (l : List ReplicaD) (term : Int) (L : List EntryD) (n : Nat) : Bool := (match L[n - 1]? with | some e => e.Term == term | none => false) && decide (l.length < 2 * l.countP fun x => begB x.Log L n)
theorem advF_at (l : List ReplicaD) (term : Int) (L : List EntryD) {n : Nat} (h : n < L.length) : advF l term L (n + 1) = ((L[n].Term == term) && decide (l.length < 2 * l.countP fun x => begB x.Log L (n + 1))) := by
  unfold advF
  rw [Nat.add_sub_cancel, List.getElem?_eq_getElem h]
/-- The replicas behind it. -/
noncomputable def advL (l : List ReplicaD) (term lead : Int) : List ReplicaD := match l[lead.toNat]? with
  | some x => l.set lead.toNat { x with Sure := (advN (advF l term x.Log) x.Sure.toNat x.Log.length : Nat) }
  | none => l
theorem advL_nat {l : List ReplicaD} {k : Nat} (term : Int) (hk : k < l.length) : advL l term (k : Int) = l.set k { l[k] with Sure := (advN (advF l term l[k].Log) l[k].Sure.toNat l[k].Log.length : Nat) } := by
  unfold advL
  rw [Int.toNat_natCast, List.getElem?_eq_getElem hk]
/-- Whether it is done. -/
noncomputable def advB (l : List ReplicaD) (term lead : Int) : Bool := goodGB l term lead && !decide (lead < 0)

set_option maxRecDepth 100000 in
set_option maxHeartbeats 1600000 in
/-- spec.l9Many -/
theorem l9Many_any (v v2 : Value) (l : List ReplicaD) (L : List EntryD) (m : Nat) (t d : Int) (hl : costReplicaS l ≤ 1048576) (hL : costEntryS L ≤ 1048576) (w : World) (h : Rd Cod.replica w v l) (h2 : Rd Cod.entry w v2 L) :
    Calls Try.prog 83 #[.agg #[v, .int .i64 t, .int .i64 d], v2, .int .i64 (m : Int)] w fun e w' => e = .returned (.int .i64 ((l.countP fun x => begB x.Log L m : Nat) : Int)) ∧ Below w.heap.size w w' := by
  have hc := Lib.hid (fun (W : World) (b : Below w.heap.size w W) (x : ReplicaD) (hx : costEntryS x.Log ≤ 1048576) u (r : Rd Cod.entry W u x.Log) => l9Begins_any u v2 x.Log L m hx hL W r (h2.below b))
  have Hce := Lib.hid (fun (k : Nat) (hk : k < l.length) => rep_le hl hk)
  obtain ⟨p2, c2, rfl, -⟩ := h2.form
  obtain ⟨q, c, rfl, _, _, r⟩ := h.form
  have R := Lib.hid r
  have HP : Hid ((l.take l.length).countP (fun x => begB x.Log L m) = l.countP fun x => begB x.Log L m) := Lib.hid (by rw [List.take_length])
  have Hsx : Hid (∀ (k : Nat) (hk : k < l.length), (l.take (k + 1)).countP (fun x => begB x.Log L m) = (l.take k).countP (fun x => begB x.Log L m) + if begB l[k].Log L m then 1 else 0) := Lib.hid (fun k hk => countP_take_succ _ hk)
  clear r h h2
  obtain ⟨n, hn⟩ : ∃ n : Nat, l.length = n := ⟨_, rfl⟩
  have Hn := Lib.hid hn
  have hnb : (n : Int) ≤ 1048576 := by unfold costReplicaS at hl; omega
  rw [hn] at HP ⊢
  clear hn hl
  generalize L.length = nL at *
  go_enter Try.func83, Try.ntmps83
  go_wp2
  go_loopw [7, 8] (fun a b wr => ∃ k m' : Nat, a = .int .i64 (m' : Int) ∧ b = .int .i64 (k : Int) ∧ k ≤ n ∧ m' ≤ k ∧ Hid (m' = (l.take k).countP fun x => begB x.Log L m) ∧ wr.cell? ⟨w.heap.size, 0, none⟩ = some (.slice q n c) ∧ w.heap.size < wr.heap.size ∧ Below w.heap.size w wr) (fun _ i _ => n - (intOf i).toNat)
  case atStart => exact ⟨0, 0, rfl, rfl, Nat.zero_le _, Nat.le_refl _, Lib.hid (by simp), by simp [go_sem], by simp, by (repeat (first | (with_reducible exact Below.refl _ _) | (with_reducible refine below_setCell ?_ (by first | (simp; done) | (simp; omega) | omega)) | (with_reducible refine below_alloc _ ?_) | (with_reducible refine below_drewN ?_ _) | (with_reducible assumption) | (with_reducible refine below_after (by assumption) ?_)))⟩
  case round =>
    obtain ⟨k, m', rfl, rfl, hk, hmk, HM, c0, hsz, hb⟩ := hrel
    have hmb : (m' : Int) ≤ 1048576 := by omega
    by_cases hlt : k < n
    · have hlt2 : (k : Int) < (n : Int) := by omega
      have hkl : k < l.length := by have := Hn.out; omega
      obtain ⟨g, o, rfl, hg, hcc⟩ := R.out (by omega)
      have at0 := (hcc k hkl).below hg hb
      have Hcl := Lib.hid (fun (W : World) (b : Below w.heap.size w W) u r => hc.out W b (l[k]'hkl) (Hce.out k hkl) u r)
      have HS := Lib.hid (Hsx.out k hkl)
      generalize l[k] = x at *
      obtain ⟨d0, ⟨u, d1, rr⟩, d2, _⟩ := at_replica at0
      rw [show o + k * Cod.replica.size = o + k * 3 from rfl] at *
      obtain ⟨pr, cr, rfl, -⟩ := rr.form
      have Hrr := Lib.hid rr
      clear at0 hcc rr hkl
      generalize x.Log.length = nx at *
      generalize begB x.Log L m = px at *
      cases px
      · have Hq : Hid (m' = (l.take (k + 1)).countP fun x => begB x.Log L m) := Lib.hid (by rw [HS.out, ← HM.out]; simp)
        go_wp2_with fail
        refine (Hcl.out _ (by (repeat (first | (with_reducible exact Below.refl _ _) | (with_reducible refine below_setCell ?_ (by first | (simp; done) | (simp; omega) | omega)) | (with_reducible refine below_alloc _ ?_) | (with_reducible refine below_drewN ?_ _) | (with_reducible assumption) | (with_reducible refine below_after (by assumption) ?_)))) _ (Hrr.out.below (by (repeat (first | (with_reducible exact Below.refl _ _) | (with_reducible refine below_setCell ?_ (by first | (simp; done) | (simp; omega) | omega)) | (with_reducible refine below_alloc _ ?_) | (with_reducible refine below_drewN ?_ _) | (with_reducible assumption) | (with_reducible refine below_after (by assumption) ?_)))))).mono ?_
        rintro e w2 ⟨rfl, k2⟩
        have m2 : Below wr.heap.size wr w2 := below_after k2 (by (repeat (first | (with_reducible exact Below.refl _ _) | (with_reducible refine below_setCell ?_ (by first | (simp; done) | (simp; omega) | omega)) | (with_reducible refine below_alloc _ ?_) | (with_reducible refine below_drewN ?_ _) | (with_reducible assumption) | (with_reducible refine below_after (by assumption) ?_))))
        replace c0 := cell_step m2 c0
        go_wp2
        go_roundw
        case rel => exact ⟨k + 1, m', rfl, by go_num, by omega, by omega, Hq, c0, Nat.lt_of_lt_of_le hsz m2.size, below_after m2 hb⟩
        case measure => simp [intOf]; omega
      · have Hq : Hid (m' + 1 = (l.take (k + 1)).countP fun x => begB x.Log L m) := Lib.hid (by rw [HS.out, ← HM.out]; simp)
        go_wp2_with fail
        refine (Hcl.out _ (by (repeat (first | (with_reducible exact Below.refl _ _) | (with_reducible refine below_setCell ?_ (by first | (simp; done) | (simp; omega) | omega)) | (with_reducible refine below_alloc _ ?_) | (with_reducible refine below_drewN ?_ _) | (with_reducible assumption) | (with_reducible refine below_after (by assumption) ?_)))) _ (Hrr.out.below (by (repeat (first | (with_reducible exact Below.refl _ _) | (with_reducible refine below_setCell ?_ (by first | (simp; done) | (simp; omega) | omega)) | (with_reducible refine below_alloc _ ?_) | (with_reducible refine below_drewN ?_ _) | (with_reducible assumption) | (with_reducible refine below_after (by assumption) ?_)))))).mono ?_
        rintro e w2 ⟨rfl, k2⟩
        have m2 : Below wr.heap.size wr w2 := below_after k2 (by (repeat (first | (with_reducible exact Below.refl _ _) | (with_reducible refine below_setCell ?_ (by first | (simp; done) | (simp; omega) | omega)) | (with_reducible refine below_alloc _ ?_) | (with_reducible refine below_drewN ?_ _) | (with_reducible assumption) | (with_reducible refine below_after (by assumption) ?_))))
        replace c0 := cell_step m2 c0
        go_wp2
        go_roundw
        case rel => exact ⟨k + 1, m' + 1, by go_num, by go_num, by omega, by omega, Hq, c0, Nat.lt_of_lt_of_le hsz m2.size, below_after m2 hb⟩
        case measure => simp [intOf]; omega
    · have hlt2 : (n : Int) ≤ (k : Int) := by omega
      obtain rfl : k = n := by omega
      have Hq : Hid (m' = l.countP fun x => begB x.Log L m) := Lib.hid (by rw [HM.out, HP.out])
      go_wp2
      go_ret
      exact ⟨congrArg (fun y : Nat => Ending.returned (.int .i64 (y : Int))) Hq.out, hb⟩

theorem begB_prefix {x L : List EntryD} {j : Nat} (h : j ≤ L.length) : pB (L.take j <+: x) = begB x L j := by
  unfold begB
  refine pB_eq ?_
  rw [pB_iff, List.prefix_iff_eq_take, List.length_take, Nat.min_eq_left h]
  constructor
  · intro e
    have := congrArg List.length e
    rw [List.length_take, List.length_take] at this
    exact ⟨by omega, h, e.symm⟩
  · exact fun e => e.2.2.symm

set_option maxRecDepth 100000 in
set_option maxHeartbeats 1600000 in
/-- the closure of impl.Advance -/
theorem advC_any (x : ReplicaD) (L : List EntryD) (j : Nat) (hj : j ≤ L.length) (hx : costEntryS x.Log ≤ 1048576) (hL : costEntryS L ≤ 1048576) (w : World) (u : Value) (ru : Rd Cod.entry w u x.Log) (B0 B1 : Nat) (vL : Value) (rL : Rd Cod.entry w vL L)
    (h0 : w.cell? ⟨B0, 1, none⟩ = some vL) (h1 : w.cell? ⟨B1, 0, none⟩ = some (.int .i64 (j : Int))) :
    Calls Try.prog 38 #[.agg #[.bool x.Up, u, .int .i64 x.Sure], .pointer (some ⟨B0, 0, none⟩), .pointer (some ⟨B1, 0, none⟩)] w fun e w' => e = .returned (.bool (begB x.Log L j)) ∧ Below w.heap.size w w' := by
  obtain ⟨pl, cl, rfl, hlc, -, -⟩ := rL.form
  have Hn := Lib.hid (fun (W : World) (b : Below w.heap.size w W) => hasPrefix_any u (.slice pl j cl) x.Log (L.take j) hx (Nat.le_trans (take_cost _ _) hL) W (ru.below b) ((rL.take j hj).below b))
  obtain ⟨pu, cu, rfl, -⟩ := ru.form
  have hB0 := World.block_lt_of_cell? _ _ h0
  have hB1 := World.block_lt_of_cell? _ _ h1
  have hLb : (L.length : Int) ≤ 1048576 := by unfold costEntryS at hL; omega
  have hjc : (j : Int) ≤ (cl : Int) := by omega
  have hj0 : (0 : Int) ≤ (j : Int) := by omega
  have hjL : (j : Int) ≤ (L.length : Int) := by omega
  rw [begB_prefix hj] at Hn
  clear ru rL
  generalize begB x.Log L j = q at *
  generalize x.Log.length = nx at *
  generalize L.length = nl at *
  obtain ⟨up, lg, su⟩ := x
  dsimp only at *
  clear lg hL hx
  go_enter Try.func38, Try.ntmps38
  go_upto_region 1 with fail
  generalize hwb : World.alloc _ _ = wb
  have e1 : wb.cell? ⟨w.heap.size, 1, none⟩ = some (.slice pu nx cu) := by rw [← hwb]; simp [go_sem]
  have zb : w.heap.size < wb.heap.size := by rw [← hwb]; simp
  have bb : Below w.heap.size w wb := by rw [← hwb]; exact below_new _ _
  clear hwb
  replace h0 := cell_step bb h0
  replace h1 := cell_step bb h1
  replace hB0 := Nat.lt_of_lt_of_le hB0 bb.size
  replace hB1 := Nat.lt_of_lt_of_le hB1 bb.size
  refine wp_region_ext (by kernel_rfl) (by kernel_rfl) wb.heap.size ?_
  have hx2 := fun (u : World) (b o : Nat) (h : b < wb.heap.size) => ext_cell wb u b o h
  repeat (any_goals (go_big_quiet_step ((go_at_call 39; (with_reducible refine calls_ext (Nat.le_refl _) (Hn.out _ (bb.trans ((ext_below _ _ _).mono bb.size))))))))
  refine wpQuiet_nil ?_
  intro w2 hb2
  clear hx2
  go_wp2
  go_ret
  exact ⟨rfl, below_after hb2 bb⟩

end Go.Proofs.Ytfaefjdlfjhniaa


/- impl.Advance. Printed by mkadv.py. -/
namespace Go.Proofs.Ytfaefjdlfjhniaa
open Go.RowKit


/-- the number in the loop's cell -/
def boxN (i : Value) (w : World) : Nat := match i with
  | .pointer (some p) => (match w.cell? p with | some v => (intOf v).toNat | none => 0)
  | _ => 0
theorem boxN_at {p : Addr} {w : World} {j : Nat} (h : w.cell? p = some (.int .i64 (j : Int))) : boxN (.pointer (some p)) w = j := by
  show (match w.cell? p with | some v => (intOf v).toNat | none => 0) = j
  rw [h]
  simp [intOf]


set_option maxRecDepth 100000 in
set_option maxHeartbeats 6400000 in
/-- impl.Advance -/
theorem advance_any (v : Value) (l : List ReplicaD) (term lead : Int) (ht : I64 term) (hd : I64 lead) (hl : costReplicaS l ≤ 1048576) (w : World) (h : Rd Cod.replica w v l) :
    Calls Try.prog 16 #[.agg #[v, .int .i64 term, .int .i64 lead]] w fun e w' => ∃ v', e = .returned (.tuple #[.agg #[v', .int .i64 (pickG (advB l term lead) ⟨advL l term lead, term, lead⟩).Term, .int .i64 (pickG (advB l term lead) ⟨advL l term lead, term, lead⟩).Lead], .bool (advB l term lead)]) ∧
      Own Cod.replica w' w.heap.size v' (pickG (advB l term lead) ⟨advL l term lead, term, lead⟩).Reps ∧ Below w.heap.size w w' := by
  have Hg := Lib.hid (fun (W : World) (k : Below w.heap.size w W) => goodGroup_any v l term lead ht hd hl W (h.below k))
  have Ho := Lib.hid (fun (W : World) (k : Below w.heap.size w W) => copyGroup_any v l term lead hl W (h.below k))
  have Hmy := Lib.hid (fun (x0 x1 : Value) (p : ReplicaD → Bool) (W : World) (k : Below w.heap.size w W) HC => isMostA_any x0 x1 v l p term lead (by unfold costReplicaS at hl; omega) W (h.below k) HC)
  have Hce := Lib.hid (fun (k : Nat) (hk : k < l.length) => rep_le hl hk)
  obtain ⟨p, c, rfl, _, _, rr⟩ := h.form
  have RR := Lib.hid rr
  obtain ⟨n, hn⟩ : ∃ n : Nat, l.length = n := ⟨_, rfl⟩
  have Hn := Lib.hid hn
  have hnb : (n : Int) ≤ 1048576 := by unfold costReplicaS at hl; omega
  have Hld := Lib.hid (fun (hg : goodGB l term lead = true) => good_lead hg)
  have Hsu := Lib.hid (fun (hg : goodGB l term lead = true) (k : Nat) (hk : k < l.length) => good_sure hg (List.getElem_mem hk))
  have HE : Hid (advB l term lead = (goodGB l term lead && !decide (lead < 0))) := Lib.hid rfl
  rw [hn] at Hg Ho Hmy ⊢
  clear hn hl h rr
  generalize advB l term lead = Q at *
  generalize goodGB l term lead = q at *
  cases q
  · obtain rfl : Q = false := by rw [HE.out, Bool.false_and]
    clear HE
    dsimp only [pickG]
    go_enter Try.func16, Try.ntmps16
    go_wp2_with fail
    refine (Hg.out _ (by (repeat (first | (with_reducible exact Below.refl _ _) | (with_reducible refine below_setCell ?_ (by first | (simp; done) | (simp; omega) | omega)) | (with_reducible refine below_alloc _ ?_) | (with_reducible refine below_drewN ?_ _) | (with_reducible assumption) | (with_reducible refine below_after (by assumption) ?_))))).mono ?_
    rintro e w1 ⟨rfl, k1⟩
    have b1 : Below w.heap.size w w1 := below_after k1 (by (repeat (first | (with_reducible exact Below.refl _ _) | (with_reducible refine below_setCell ?_ (by first | (simp; done) | (simp; omega) | omega)) | (with_reducible refine below_alloc _ ?_) | (with_reducible refine below_drewN ?_ _) | (with_reducible assumption) | (with_reducible refine below_after (by assumption) ?_))))
    have hx1 := bcell k1
    have c0 : w1.cell? ⟨w.heap.size, 0, none⟩ = some (.slice p n c) := by rw [hx1.1 _ _ (by first | (simp; done) | (simp; omega))]; simp [go_sem]
    have c1 : w1.cell? ⟨w.heap.size, 1, none⟩ = some (.int .i64 term) := by rw [hx1.1 _ _ (by first | (simp; done) | (simp; omega))]; simp [go_sem]
    have c2 : w1.cell? ⟨w.heap.size, 2, none⟩ = some (.int .i64 lead) := by rw [hx1.1 _ _ (by first | (simp; done) | (simp; omega))]; simp [go_sem]
    have r0 : w1.cell? ⟨w.heap.size + 1, 0, none⟩ = some (.slice none 0 0) := by rw [hx1.1 _ _ (by first | (simp; done) | (simp; omega))]; simp [go_sem]
    have r1 : w1.cell? ⟨w.heap.size + 1, 1, none⟩ = some (.int .i64 0) := by rw [hx1.1 _ _ (by first | (simp; done) | (simp; omega))]; simp [go_sem]
    have r2 : w1.cell? ⟨w.heap.size + 1, 2, none⟩ = some (.int .i64 0) := by rw [hx1.1 _ _ (by first | (simp; done) | (simp; omega))]; simp [go_sem]
    have g0 : w1.frozen? ⟨w.heap.size + 1, 0, none⟩ = false := by rw [hx1.2 _ _ (by first | (simp; done) | (simp; omega))]; simp [go_sem]
    have g1 : w1.frozen? ⟨w.heap.size + 1, 1, none⟩ = false := by rw [hx1.2 _ _ (by first | (simp; done) | (simp; omega))]; simp [go_sem]
    have g2 : w1.frozen? ⟨w.heap.size + 1, 2, none⟩ = false := by rw [hx1.2 _ _ (by first | (simp; done) | (simp; omega))]; simp [go_sem]
    have z1 : w.heap.size + 1 < w1.heap.size := by have := k1.size; simp at this; omega
    clear k1 hx1
    go_wp2
    refine bodyPost_ret (v := .tuple #[.agg #[.slice none 0 0, .int .i64 0, .int .i64 0], .bool false]) (by simp [results, Try.results16, go_sem, r0, r1, r2]) rfl ⟨_, rfl, own_nil _ _ _, by (repeat (first | (with_reducible exact Below.refl _ _) | (with_reducible refine below_setCell ?_ (by first | (simp; done) | (simp; omega) | omega)) | (with_reducible refine below_alloc _ ?_) | (with_reducible refine below_drewN ?_ _) | (with_reducible assumption) | (with_reducible refine below_after (by assumption) ?_)))⟩
  · by_cases hneg : lead < 0
    · obtain rfl : Q = false := by rw [HE.out, decide_eq_true hneg]; rfl
      clear HE
      dsimp only [pickG]
      go_enter Try.func16, Try.ntmps16
      go_wp2_with fail
      refine (Hg.out _ (by (repeat (first | (with_reducible exact Below.refl _ _) | (with_reducible refine below_setCell ?_ (by first | (simp; done) | (simp; omega) | omega)) | (with_reducible refine below_alloc _ ?_) | (with_reducible refine below_drewN ?_ _) | (with_reducible assumption) | (with_reducible refine below_after (by assumption) ?_))))).mono ?_
      rintro e w1 ⟨rfl, k1⟩
      have b1 : Below w.heap.size w w1 := below_after k1 (by (repeat (first | (with_reducible exact Below.refl _ _) | (with_reducible refine below_setCell ?_ (by first | (simp; done) | (simp; omega) | omega)) | (with_reducible refine below_alloc _ ?_) | (with_reducible refine below_drewN ?_ _) | (with_reducible assumption) | (with_reducible refine below_after (by assumption) ?_))))
      have hx1 := bcell k1
      have c0 : w1.cell? ⟨w.heap.size, 0, none⟩ = some (.slice p n c) := by rw [hx1.1 _ _ (by first | (simp; done) | (simp; omega))]; simp [go_sem]
      have c1 : w1.cell? ⟨w.heap.size, 1, none⟩ = some (.int .i64 term) := by rw [hx1.1 _ _ (by first | (simp; done) | (simp; omega))]; simp [go_sem]
      have c2 : w1.cell? ⟨w.heap.size, 2, none⟩ = some (.int .i64 lead) := by rw [hx1.1 _ _ (by first | (simp; done) | (simp; omega))]; simp [go_sem]
      have r0 : w1.cell? ⟨w.heap.size + 1, 0, none⟩ = some (.slice none 0 0) := by rw [hx1.1 _ _ (by first | (simp; done) | (simp; omega))]; simp [go_sem]
      have r1 : w1.cell? ⟨w.heap.size + 1, 1, none⟩ = some (.int .i64 0) := by rw [hx1.1 _ _ (by first | (simp; done) | (simp; omega))]; simp [go_sem]
      have r2 : w1.cell? ⟨w.heap.size + 1, 2, none⟩ = some (.int .i64 0) := by rw [hx1.1 _ _ (by first | (simp; done) | (simp; omega))]; simp [go_sem]
      have g0 : w1.frozen? ⟨w.heap.size + 1, 0, none⟩ = false := by rw [hx1.2 _ _ (by first | (simp; done) | (simp; omega))]; simp [go_sem]
      have g1 : w1.frozen? ⟨w.heap.size + 1, 1, none⟩ = false := by rw [hx1.2 _ _ (by first | (simp; done) | (simp; omega))]; simp [go_sem]
      have g2 : w1.frozen? ⟨w.heap.size + 1, 2, none⟩ = false := by rw [hx1.2 _ _ (by first | (simp; done) | (simp; omega))]; simp [go_sem]
      have z1 : w.heap.size + 1 < w1.heap.size := by have := k1.size; simp at this; omega
      clear k1 hx1
      go_wp2
      refine bodyPost_ret (v := .tuple #[.agg #[.slice none 0 0, .int .i64 0, .int .i64 0], .bool false]) (by simp [results, Try.results16, go_sem, r0, r1, r2]) rfl ⟨_, rfl, own_nil _ _ _, by (repeat (first | (with_reducible exact Below.refl _ _) | (with_reducible refine below_setCell ?_ (by first | (simp; done) | (simp; omega) | omega)) | (with_reducible refine below_alloc _ ?_) | (with_reducible refine below_drewN ?_ _) | (with_reducible assumption) | (with_reducible refine below_after (by assumption) ?_)))⟩
    · obtain ⟨k, rfl, hkl, h60⟩ := Hld.out rfl hneg
      have hkn : (k : Int) < (n : Int) := by have := Hn.out; omega
      have hk0 : (0 : Int) ≤ (k : Int) := by omega
      have hnd : decide ((k : Int) < 0) = false := decide_eq_false (by omega)
      obtain rfl : Q = true := by rw [HE.out, hnd]; rfl
      clear HE
      dsimp only [pickG]
      have Hst := Lib.hid (advL_nat term hkl)
      obtain ⟨g, o, rfl, hg, hc⟩ := RR.out (by omega)
      obtain ⟨dU, ⟨vL, dL, rL⟩, tS, zT⟩ := at_replica (hc k hkl)
      rw [show o + k * Cod.replica.size = o + k * 3 from rfl] at dU dL tS
      obtain ⟨s, hs, hsl⟩ := Hsu.out rfl k hkl
      rw [hs] at tS
      have Hce2 := Lib.hid (Hce.out k hkl)
      have Hsame : Hid (l.set k { l[k] with Sure := (s : Int) } = l) := Lib.hid (by rw [← hs]; exact List.set_getElem_self hkl)
      rw [hs] at Hst
      rw [Int.toNat_natCast] at Hst
      obtain ⟨pL, cL, rfl, hlc, -, rl⟩ := rL.form
      have hLl : (l[k].Log.length : Int) ≤ 60 := by omega
      have hsL : s ≤ l[k].Log.length := by omega
      have hsl2 : (s : Int) ≤ 60 := by omega
      have Hfa := Lib.hid (fun (j : Nat) (hj : j < l[k].Log.length) => advF_at l term l[k].Log hj)
      obtain ⟨F, hF⟩ : ∃ F, advF l term l[k].Log = F := ⟨_, rfl⟩
      rw [hF] at Hst Hfa
      have HRl := Lib.hid rL
      have Hrl := Lib.hid rl
      have HK : Hid (∀ z : Int, { l[k] with Sure := z } = (⟨l[k].Up, l[k].Log, z⟩ : ReplicaD)) := Lib.hid (fun _ => rfl)
      obtain ⟨x, hx⟩ : ∃ x, l[k] = x := ⟨_, rfl⟩
      have Hx := Lib.hid hx
      rw [hx] at dU dL hLl hsL Hst Hfa Hce2 HRl Hrl Hsame
      clear hc rL rl RR hs hsl zT Hsu Hld h60 hx HK hF hlc
      obtain ⟨nL, hnL⟩ : ∃ nL, x.Log.length = nL := ⟨_, rfl⟩
      have HnL := Lib.hid hnL
      rw [hnL] at dL hLl hsL Hst HRl
      clear hnL
      go_enter Try.func16, Try.ntmps16
      go_wp2_with fail
      refine (Hg.out _ (by (repeat (first | (with_reducible exact Below.refl _ _) | (with_reducible refine below_setCell ?_ (by first | (simp; done) | (simp; omega) | omega)) | (with_reducible refine below_alloc _ ?_) | (with_reducible refine below_drewN ?_ _) | (with_reducible assumption) | (with_reducible refine below_after (by assumption) ?_))))).mono ?_
      rintro e w1 ⟨rfl, k1⟩
      have b1 : Below w.heap.size w w1 := below_after k1 (by (repeat (first | (with_reducible exact Below.refl _ _) | (with_reducible refine below_setCell ?_ (by first | (simp; done) | (simp; omega) | omega)) | (with_reducible refine below_alloc _ ?_) | (with_reducible refine below_drewN ?_ _) | (with_reducible assumption) | (with_reducible refine below_after (by assumption) ?_))))
      have hx1 := bcell k1
      have c0 : w1.cell? ⟨w.heap.size, 0, none⟩ = some (.slice (some ⟨g, o, none⟩) n c) := by rw [hx1.1 _ _ (by first | (simp; done) | (simp; omega))]; simp [go_sem]
      have c1 : w1.cell? ⟨w.heap.size, 1, none⟩ = some (.int .i64 term) := by rw [hx1.1 _ _ (by first | (simp; done) | (simp; omega))]; simp [go_sem]
      have c2 : w1.cell? ⟨w.heap.size, 2, none⟩ = some (.int .i64 (k : Int)) := by rw [hx1.1 _ _ (by first | (simp; done) | (simp; omega))]; simp [go_sem]
      have r0 : w1.cell? ⟨w.heap.size + 1, 0, none⟩ = some (.slice none 0 0) := by rw [hx1.1 _ _ (by first | (simp; done) | (simp; omega))]; simp [go_sem]
      have r1 : w1.cell? ⟨w.heap.size + 1, 1, none⟩ = some (.int .i64 0) := by rw [hx1.1 _ _ (by first | (simp; done) | (simp; omega))]; simp [go_sem]
      have r2 : w1.cell? ⟨w.heap.size + 1, 2, none⟩ = some (.int .i64 0) := by rw [hx1.1 _ _ (by first | (simp; done) | (simp; omega))]; simp [go_sem]
      have g0 : w1.frozen? ⟨w.heap.size + 1, 0, none⟩ = false := by rw [hx1.2 _ _ (by first | (simp; done) | (simp; omega))]; simp [go_sem]
      have g1 : w1.frozen? ⟨w.heap.size + 1, 1, none⟩ = false := by rw [hx1.2 _ _ (by first | (simp; done) | (simp; omega))]; simp [go_sem]
      have g2 : w1.frozen? ⟨w.heap.size + 1, 2, none⟩ = false := by rw [hx1.2 _ _ (by first | (simp; done) | (simp; omega))]; simp [go_sem]
      have z1 : w.heap.size + 1 < w1.heap.size := by have := k1.size; simp at this; omega
      clear k1 hx1
      replace dU := cell_step b1 dU
      replace dL := cell_step b1 dL
      replace tS := cell_step b1 tS
      have zi : w.heap.size + 1 < w1.heap.size := z1
      go_wp2_with fail
      refine (Ho.out _ b1).mono ?_
      rintro e w2 ⟨v', rfl, o2, k2⟩
      obtain ⟨p', c', rfl⟩ := o2.form
      obtain ⟨g', o', rfl, hg1, hg2, -, -⟩ := own_atR o2 k hkl
      have b2 : Below w.heap.size w w2 := below_after k2 b1
      replace c0 := cell_step k2 c0
      replace c1 := cell_step k2 c1
      replace c2 := cell_step k2 c2
      replace r0 := cell_step k2 r0
      replace r1 := cell_step k2 r1
      replace r2 := cell_step k2 r2
      replace dU := cell_step k2 dU
      replace dL := cell_step k2 dL
      replace tS := cell_step k2 tS
      replace g0 : w2.frozen? ⟨w.heap.size + 1, 0, none⟩ = false := (k2.frozen (p := ⟨w.heap.size + 1, 0, none⟩) z1).trans g0
      replace g1 : w2.frozen? ⟨w.heap.size + 1, 1, none⟩ = false := (k2.frozen (p := ⟨w.heap.size + 1, 1, none⟩) z1).trans g1
      replace g2 : w2.frozen? ⟨w.heap.size + 1, 2, none⟩ = false := (k2.frozen (p := ⟨w.heap.size + 1, 2, none⟩) z1).trans g2
      replace z1 : w.heap.size + 1 < w2.heap.size := Nat.lt_of_lt_of_le z1 k2.size
      have z2 : w1.heap.size ≤ w2.heap.size := k2.size
      have hn3 : l.length = n := Hn.out
      rw [hn3] at o2 ⊢
      have O2 := Lib.hid o2
      clear o2 k2
      have zz0 : w.heap.size < w2.heap.size := by omega
      have zz1 : w.heap.size + 1 < w2.heap.size := by omega
      have zzg : g < w2.heap.size := by have := b2.size; omega
      go_upto_region 4 with fail
      generalize hw3 : World.alloc _ _ = w3
      have b3 : Below w.heap.size w w3 := by rw [← hw3]; (repeat (first | (with_reducible exact Below.refl _ _) | (with_reducible refine below_setCell ?_ (by first | (simp; done) | (simp; omega) | omega)) | (with_reducible refine below_alloc _ ?_) | (with_reducible refine below_drewN ?_ _) | (with_reducible assumption) | (with_reducible refine below_after (by assumption) ?_)))
      have q0 : w3.cell? ⟨w2.heap.size, 0, none⟩ = some (.slice (some ⟨g', o', none⟩) n c') := by rw [← hw3]; simp [go_sem]
      have q1 : w3.cell? ⟨w2.heap.size, 1, none⟩ = some (.int .i64 term) := by rw [← hw3]; simp [go_sem]
      have q2 : w3.cell? ⟨w2.heap.size, 2, none⟩ = some (.int .i64 (k : Int)) := by rw [← hw3]; simp [go_sem]
      have z3 : w2.heap.size < w3.heap.size := by rw [← hw3]; simp
      have m3 : Below w2.heap.size w2 w3 := by rw [← hw3]; exact below_new _ _
      replace c0 := cell_step m3 c0
      replace c1 := cell_step m3 c1
      replace c2 := cell_step m3 c2
      replace r0 := cell_step m3 r0
      replace r1 := cell_step m3 r1
      replace r2 := cell_step m3 r2
      replace dU := cell_step m3 dU
      replace dL := cell_step m3 dL
      replace tS := cell_step m3 tS
      replace g0 : w3.frozen? ⟨w.heap.size + 1, 0, none⟩ = false := (m3.frozen (p := ⟨w.heap.size + 1, 0, none⟩) z1).trans g0
      replace g1 : w3.frozen? ⟨w.heap.size + 1, 1, none⟩ = false := (m3.frozen (p := ⟨w.heap.size + 1, 1, none⟩) z1).trans g1
      replace g2 : w3.frozen? ⟨w.heap.size + 1, 2, none⟩ = false := (m3.frozen (p := ⟨w.heap.size + 1, 2, none⟩) z1).trans g2
      replace z1 : w.heap.size + 1 < w3.heap.size := Nat.lt_of_lt_of_le z1 m3.size
      replace zz0 : w.heap.size < w3.heap.size := by omega
      replace zzg : g < w3.heap.size := by omega
      clear hw3
      go_upto_region 5 with fail
      generalize hw4 : World.alloc _ _ = w4
      have b4 : Below w.heap.size w w4 := by rw [← hw4]; (repeat (first | (with_reducible exact Below.refl _ _) | (with_reducible refine below_setCell ?_ (by first | (simp; done) | (simp; omega) | omega)) | (with_reducible refine below_alloc _ ?_) | (with_reducible refine below_drewN ?_ _) | (with_reducible assumption) | (with_reducible refine below_after (by assumption) ?_)))
      have e1 : w4.cell? ⟨w3.heap.size, 1, none⟩ = some (.slice pL nL cL) := by rw [← hw4]; simp [go_sem]
      have e2 : w4.cell? ⟨w3.heap.size, 2, none⟩ = some (.int .i64 (s : Int)) := by rw [← hw4]; simp [go_sem]
      have z4 : w3.heap.size < w4.heap.size := by rw [← hw4]; simp
      have m4 : Below w3.heap.size w3 w4 := by rw [← hw4]; exact below_new _ _
      replace c0 := cell_step m4 c0
      replace c1 := cell_step m4 c1
      replace c2 := cell_step m4 c2
      replace r0 := cell_step m4 r0
      replace r1 := cell_step m4 r1
      replace r2 := cell_step m4 r2
      replace q0 := cell_step m4 q0
      replace q1 := cell_step m4 q1
      replace q2 := cell_step m4 q2
      replace g0 : w4.frozen? ⟨w.heap.size + 1, 0, none⟩ = false := (m4.frozen (p := ⟨w.heap.size + 1, 0, none⟩) z1).trans g0
      replace g1 : w4.frozen? ⟨w.heap.size + 1, 1, none⟩ = false := (m4.frozen (p := ⟨w.heap.size + 1, 1, none⟩) z1).trans g1
      replace g2 : w4.frozen? ⟨w.heap.size + 1, 2, none⟩ = false := (m4.frozen (p := ⟨w.heap.size + 1, 2, none⟩) z1).trans g2
      replace z1 : w.heap.size + 1 < w4.heap.size := Nat.lt_of_lt_of_le z1 m4.size
      have m24 : Below w2.heap.size w2 w4 := m3.trans (m4.mono m3.size)
      clear hw4 m3 m4 b3 b2 dU dL tS
      have zz3 : w2.heap.size < w4.heap.size := by omega
      have zz4 : g' < w4.heap.size := by omega
      obtain ⟨hfr, y0, y1, y2, hy0, hy1, hy2⟩ := own_cells3 O2.out k hkl
      have hf2 := (m24.frozen (p := ⟨g', o' + k * 3 + 2, none⟩) hg2).trans (hfr _)
      replace hy2 := cell_step m24 hy2
      clear hfr hy0 hy1
      go_wp2
      generalize hw5 : World.alloc _ _ = w5
      have j0 : w5.cell? ⟨w4.heap.size, 0, none⟩ = some (.int .i64 (nL : Int)) := by rw [← hw5]; simp [go_sem]
      have z5 : w4.heap.size < w5.heap.size := by rw [← hw5]; simp
      have m5 : Below w4.heap.size w4 w5 := by rw [← hw5]; exact below_new _ _
      have f5 : w5.frozen? ⟨w4.heap.size, 0, none⟩ = false := by rw [← hw5]; simp [go_sem]
      clear hw5
      go_loopw [6] (fun i wr => ∃ b j : Nat, i = .pointer (some ⟨b, 0, none⟩) ∧ w4.heap.size ≤ b ∧ b < wr.heap.size ∧ wr.cell? ⟨b, 0, none⟩ = some (.int .i64 (j : Int)) ∧ wr.frozen? ⟨b, 0, none⟩ = false ∧ s ≤ j ∧ j ≤ nL ∧ Hid (advN F s nL = advN F s j) ∧ Below w4.heap.size w4 wr) (fun i wr => boxN i wr)
      case atStart => exact ⟨w4.heap.size, nL, rfl, Nat.le_refl _, z5, j0, f5, hsL, Nat.le_refl _, Lib.hid rfl, m5⟩
      clear j0 z5 m5 f5
      case round =>
        obtain ⟨bx, j, rfl, hb1, hb2, jc, jf, hsj, hj, HN, hb⟩ := hrel
        replace c0 := cell_step hb c0
        replace c1 := cell_step hb c1
        replace c2 := cell_step hb c2
        replace r0 := cell_step hb r0
        replace r1 := cell_step hb r1
        replace r2 := cell_step hb r2
        replace e1 := cell_step hb e1
        replace e2 := cell_step hb e2
        replace q0 := cell_step hb q0
        replace q1 := cell_step hb q1
        replace q2 := cell_step hb q2
        replace hy2 := cell_step hb hy2
        replace g0 : wr.frozen? ⟨w.heap.size + 1, 0, none⟩ = false := (hb.frozen (p := ⟨w.heap.size + 1, 0, none⟩) z1).trans g0
        replace g1 : wr.frozen? ⟨w.heap.size + 1, 1, none⟩ = false := (hb.frozen (p := ⟨w.heap.size + 1, 1, none⟩) z1).trans g1
        replace g2 : wr.frozen? ⟨w.heap.size + 1, 2, none⟩ = false := (hb.frozen (p := ⟨w.heap.size + 1, 2, none⟩) z1).trans g2
        replace z1 : w.heap.size + 1 < wr.heap.size := Nat.lt_of_lt_of_le z1 hb.size
        have zr2 : w2.heap.size < wr.heap.size := Nat.lt_of_lt_of_le zz3 hb.size
        have zr3 : w3.heap.size < wr.heap.size := Nat.lt_of_lt_of_le z4 hb.size
        have zr0 : w.heap.size < wr.heap.size := by omega
        replace hf2 := (hb.frozen (p := ⟨g', o' + k * 3 + 2, none⟩) zz4).trans hf2
        have zr4 : g' < wr.heap.size := Nat.lt_of_lt_of_le zz4 hb.size
        have bw : Below w.heap.size w wr := below_after hb b4
        have m2r : Below w2.heap.size w2 wr := m24.trans (hb.mono m24.size)
        by_cases hlt : j ≤ s
        · obtain rfl : j = s := by omega
          have HL : Hid (advN F j nL = j) := Lib.hid (HN.out.trans (advN_stop F j))
          have OO := Lib.hid (O2.out.keep (Nat.le_refl _) (keep_below m2r (Keep.refl _ _)))
          have hz : (j : Int) ≤ (j : Int) := Int.le_refl _
          clear HN
          go_wp2
          all_goals
            refine bodyPost_ret (v := .tuple #[.agg #[.slice (some ⟨g', o', none⟩) n c', .int .i64 term, .int .i64 (k : Int)], .bool true]) (by simp [results, Try.results16, go_sem, r0, r1, r2, g0, g1, g2]) rfl ⟨.slice (some ⟨g', o', none⟩) n c', rfl, ?_, by (repeat (first | (with_reducible exact Below.refl _ _) | (with_reducible refine below_setCell ?_ (by first | (simp; done) | (simp; omega) | omega)) | (with_reducible refine below_alloc _ ?_) | (with_reducible refine below_drewN ?_ _) | (with_reducible assumption) | (with_reducible refine below_after (by assumption) ?_)))⟩
            rw [Hst.out, HL.out, Hsame.out]
            exact (own_weakR (OO.out.keep (Nat.le_refl _) (by (repeat (first | (with_reducible exact Keep.refl _ _) | (with_reducible refine keep_set ?_ (by first | (simp; done) | (simp; omega) | omega)) | (with_reducible refine keep_alloc _ ?_) | (with_reducible refine keep_drewN ?_ _) | (with_reducible assumption) | (with_reducible refine keep_below (by assumption) ?_)))))).mono (by omega)
        · obtain ⟨i, rfl⟩ : ∃ i, j = i + 1 := ⟨j - 1, by omega⟩
          have hil : i < x.Log.length := by have := HnL.out; omega
          have hi1 : (s : Int) < ((i + 1 : Nat) : Int) := by omega
          have hi2 : (i : Int) < (nL : Int) := by omega
          have hi3 : (i : Int) ≤ 60 := by omega
          obtain ⟨ge, oe, rfl, hge, hce⟩ := Hrl.out (by omega)
          obtain ⟨d0, -, -, -, -, -, -, -, -⟩ := at_entry (hce i hil)
          rw [show oe + i * Cod.entry.size = oe + i * 8 from rfl] at d0
          replace d0 := cell_step bw d0
          replace hge : ge < wr.heap.size := by have := bw.size; omega
          have Hfi := Lib.hid (Hfa.out i hil)
          have Hmi : Hid (∀ W, Below wr.heap.size wr W → Calls Try.prog 28 #[.agg #[.slice (some ⟨g, o, none⟩) n c, .int .i64 term, .int .i64 (k : Int)], .func (.func 38) #[] #[.pointer (some ⟨w3.heap.size, 0, none⟩), .pointer (some ⟨bx, 0, none⟩)]] W fun e w' => e = .returned (.bool (decide (n < 2 * l.countP fun y => begB y.Log x.Log (i + 1)))) ∧ Below W.heap.size W w') := Lib.hid (fun W b => Hmy.out (.pointer (some ⟨w3.heap.size, 0, none⟩)) (.pointer (some ⟨bx, 0, none⟩)) (fun y => begB y.Log x.Log (i + 1)) W (below_after b bw) (fun W2 b2 y hy u ru => by
            obtain ⟨k', hk', rfl⟩ := List.getElem_of_mem hy
            exact advC_any l[k'] x.Log (i + 1) (by omega) (Hce.out k' hk') Hce2.out W2 u ru w3.heap.size bx (.slice (some ⟨ge, oe, none⟩) x.Log.length cL) (by rw [HnL.out]; exact HRl.out.below (below_after b2 (below_after b bw))) (by rw [HnL.out]; exact cell_step (below_after b2 b) e1) (cell_step (below_after b2 b) jc)))
          have HNo := Lib.hid (fun hf => HN.out.trans (advN_no (f := F) (s := s) (n := i) (by omega) hf))
          have HYe := Lib.hid (fun hf => HN.out.trans (advN_yes (f := F) (s := s) (n := i) (by omega) hf))
          have Hcl : Hid (l.countP (fun y => begB y.Log x.Log (i + 1)) ≤ n) := Lib.hid (by rw [← Hn.out]; exact List.countP_le_length)
          rw [Hn.out] at Hfi
          generalize (l.countP fun y => begB y.Log x.Log (i + 1)) = cn at *
          have hcn : (cn : Int) ≤ 1048576 := by have := Hcl.out; omega
          generalize x.Log[i].Term = T at *
          clear hce HN hil Hfa Hmy
          by_cases hT : T = term
          · subst hT
            by_cases hm : n < 2 * cn
            · have hmI : (n : Int) < 2 * (cn : Int) := by omega
              rw [decide_eq_true hm] at Hmi
              have HL : Hid (advN F s nL = i + 1) := Lib.hid (HYe.out (by rw [Hfi.out]; simp [hm]))
              clear HNo HYe Hfi
              go_upto_region 8 with fail
              refine wp_region_ext (by kernel_rfl) (by kernel_rfl) wr.heap.size ?_
              have hx2 := fun (u : World) (b o : Nat) (h : b < wr.heap.size) => ext_cell wr u b o h
              repeat (any_goals (go_big_quiet_step ((go_at_call 28; (refine calls_ext (Nat.le_refl _) (Hmi.out _ (ext_below _ _ _)))))))
              refine wpQuiet_nil ?_
              intro w5 hb5
              clear hx2
              have jc0 := jc
              replace jc := cell_step hb5 jc
              replace jf := (hb5.frozen (p := ⟨bx, 0, none⟩) hb2).trans jf
              replace hb2 := Nat.lt_of_lt_of_le hb2 hb5.size
              have hne5 : bx ≠ w5.heap.size := by omega
              replace c0 := cell_step hb5 c0
              replace c1 := cell_step hb5 c1
              replace c2 := cell_step hb5 c2
              replace r0 := cell_step hb5 r0
              replace r1 := cell_step hb5 r1
              replace r2 := cell_step hb5 r2
              replace e1 := cell_step hb5 e1
              replace e2 := cell_step hb5 e2
              replace q0 := cell_step hb5 q0
              replace q1 := cell_step hb5 q1
              replace q2 := cell_step hb5 q2
              replace hy2 := cell_step hb5 hy2
              replace g0 : w5.frozen? ⟨w.heap.size + 1, 0, none⟩ = false := (hb5.frozen (p := ⟨w.heap.size + 1, 0, none⟩) z1).trans g0
              replace g1 : w5.frozen? ⟨w.heap.size + 1, 1, none⟩ = false := (hb5.frozen (p := ⟨w.heap.size + 1, 1, none⟩) z1).trans g1
              replace g2 : w5.frozen? ⟨w.heap.size + 1, 2, none⟩ = false := (hb5.frozen (p := ⟨w.heap.size + 1, 2, none⟩) z1).trans g2
              replace z1 : w.heap.size + 1 < w5.heap.size := Nat.lt_of_lt_of_le z1 hb5.size
              replace zr2 : w2.heap.size < w5.heap.size := Nat.lt_of_lt_of_le zr2 hb5.size
              replace zr0 : w.heap.size < w5.heap.size := by omega
              replace hf2 := (hb5.frozen (p := ⟨g', o' + k * 3 + 2, none⟩) zr4).trans hf2
              replace zr4 : g' < w5.heap.size := Nat.lt_of_lt_of_le zr4 hb5.size
              replace bw : Below w.heap.size w w5 := below_after hb5 bw
              replace m2r : Below w2.heap.size w2 w5 := m2r.trans (hb5.mono m2r.size)
              have O5 : Hid (Own Cod.replicaR (w5.setCell ⟨g', o' + k * 3 + 2, none⟩ (.int .i64 ((i : Int) + 1))) w1.heap.size (.slice (some ⟨g', o', none⟩) n c') (l.set k ⟨x.Up, x.Log, (i : Int) + 1⟩)) := Lib.hid (by
                have h := own_setSure (O2.out.keep (Nat.le_refl _) (keep_below m2r (Keep.refl _ _))) k hkl ((i : Int) + 1) (by unfold I64; omega)
                rw [Hx.out] at h
                exact h)
              have HS2 : Hid (advL l T (k : Int) = l.set k ⟨x.Up, x.Log, (i : Int) + 1⟩) := Lib.hid (by rw [Hst.out, HL.out, Int.natCast_add]; rfl)
              have hne1 : w.heap.size + 1 ≠ g' := by omega
              have hne3 : w2.heap.size ≠ g' := by omega
              go_upto_region 12 with fail
              generalize hw6 : World.setCell _ _ _ = w6
              rw [hw6] at O5
              have ot : ∀ b i, b ≠ g' → w6.cell? ⟨b, i, none⟩ = w5.cell? ⟨b, i, none⟩ := fun b i hb => by rw [← hw6, World.cell?_setCell_other _ _ _ _ (fun e => hb (congrArg Addr.block e).symm)]
              have of : ∀ p, w6.frozen? p = w5.frozen? p := fun p => by rw [← hw6, World.frozen?_setCell]
              have b6 : Below w.heap.size w w6 := by rw [← hw6]; exact below_setCell bw (by simp; omega)
              rw [← ot _ _ hne1] at r0 r1 r2
              rw [← ot _ _ hne3] at q0 q1 q2
              rw [← of] at g0 g1 g2
              rw [← ot _ _ (show bx ≠ g' from by omega)] at jc
              clear hw6 ot of hf2 hy2 b4 hb hb5
              go_wp2
              all_goals
                refine bodyPost_ret (v := .tuple #[.agg #[.slice (some ⟨g', o', none⟩) n c', .int .i64 T, .int .i64 (k : Int)], .bool true]) (by simp [results, Try.results16, go_sem, r0, r1, r2, g0, g1, g2]) rfl ⟨.slice (some ⟨g', o', none⟩) n c', rfl, ?_, by (repeat (first | (with_reducible exact Below.refl _ _) | (with_reducible refine below_setCell ?_ (by first | (simp; done) | (simp; omega) | omega)) | (with_reducible refine below_alloc _ ?_) | (with_reducible refine below_drewN ?_ _) | (with_reducible assumption) | (with_reducible refine below_after (by assumption) ?_)))⟩
                rw [HS2.out]
                exact (own_weakR (O5.out.keep (Nat.le_refl _) (by (repeat (first | (with_reducible exact Keep.refl _ _) | (with_reducible refine keep_set ?_ (by first | (simp; done) | (simp; omega) | omega)) | (with_reducible refine keep_alloc _ ?_) | (with_reducible refine keep_drewN ?_ _) | (with_reducible assumption) | (with_reducible refine keep_below (by assumption) ?_)))))).mono (by omega)
            · have hmI : 2 * (cn : Int) ≤ (n : Int) := by omega
              rw [decide_eq_false hm] at Hmi
              have HNX : Hid (advN F s nL = advN F s i) := Lib.hid (HNo.out (by rw [Hfi.out]; simp [hm]))
              clear HNo HYe Hfi
              go_upto_region 8 with fail
              refine wp_region_ext (by kernel_rfl) (by kernel_rfl) wr.heap.size ?_
              have hx2 := fun (u : World) (b o : Nat) (h : b < wr.heap.size) => ext_cell wr u b o h
              repeat (any_goals (go_big_quiet_step ((go_at_call 28; (refine calls_ext (Nat.le_refl _) (Hmi.out _ (ext_below _ _ _)))))))
              refine wpQuiet_nil ?_
              intro w5 hb5
              clear hx2
              have jc0 := jc
              replace jc := cell_step hb5 jc
              replace jf := (hb5.frozen (p := ⟨bx, 0, none⟩) hb2).trans jf
              replace hb2 := Nat.lt_of_lt_of_le hb2 hb5.size
              have hne5 : bx ≠ w5.heap.size := by omega
              go_wp2
              go_roundw
              case rel => exact ⟨w5.heap.size, i, rfl, by have := hb.size; have := hb5.size; omega, by simp, by simp [go_sem], by simp [go_sem], by omega, by omega, HNX, below_after (below_new _ _) (below_after hb5 hb)⟩
              case measure => rw [boxN_at (j := i) (by simp [go_sem]), boxN_at (j := i + 1) jc0]; omega
          · have hTb : (T == term) = false := by simpa using hT
            have HNX : Hid (advN F s nL = advN F s i) := Lib.hid (HNo.out (by rw [Hfi.out, hTb, Bool.false_and]))
            clear HNo HYe Hfi
            go_upto_region 8 with fail
            refine wp_region_ext (by kernel_rfl) (by kernel_rfl) wr.heap.size ?_
            have hx2 := fun (u : World) (b o : Nat) (h : b < wr.heap.size) => ext_cell wr u b o h
            repeat (any_goals (go_big_quiet_step (fail)))
            refine wpQuiet_nil ?_
            intro w5 hb5
            clear hx2
            have jc0 := jc
            replace jc := cell_step hb5 jc
            replace jf := (hb5.frozen (p := ⟨bx, 0, none⟩) hb2).trans jf
            replace hb2 := Nat.lt_of_lt_of_le hb2 hb5.size
            have hne5 : bx ≠ w5.heap.size := by omega
            go_wp2
            go_roundw
            case rel => exact ⟨w5.heap.size, i, rfl, by have := hb.size; have := hb5.size; omega, by simp, by simp [go_sem], by simp [go_sem], by omega, by omega, HNX, below_after (below_new _ _) (below_after hb5 hb)⟩
            case measure => rw [boxN_at (j := i) (by simp [go_sem]), boxN_at (j := i + 1) jc0]; omega

end Go.Proofs.Ytfaefjdlfjhniaa


/- spec.Advance. Printed by mkadv.py. -/
namespace Go.Proofs.Ytfaefjdlfjhniaa
open Go.RowKit


set_option maxRecDepth 100000 in
set_option maxHeartbeats 6400000 in
/-- spec.Advance -/
theorem advanceS_any (v : Value) (l : List ReplicaD) (term lead : Int) (ht : I64 term) (hd : I64 lead) (hl : costReplicaS l ≤ 1048576) (w : World) (h : Rd Cod.replica w v l) :
    Calls Try.prog 67 #[.agg #[v, .int .i64 term, .int .i64 lead]] w fun e w' => ∃ v', e = .returned (.tuple #[.agg #[v', .int .i64 (pickG (advB l term lead) ⟨advL l term lead, term, lead⟩).Term, .int .i64 (pickG (advB l term lead) ⟨advL l term lead, term, lead⟩).Lead], .bool (advB l term lead)]) ∧
      Own Cod.replica w' w.heap.size v' (pickG (advB l term lead) ⟨advL l term lead, term, lead⟩).Reps ∧ Below w.heap.size w w' := by
  have Hg := Lib.hid (fun (W : World) (k : Below w.heap.size w W) => goodGroupS_any v l term lead ht hd hl W (h.below k))
  have Ho := Lib.hid (fun (W : World) (k : Below w.heap.size w W) => l9Own_any v l term lead hl W (h.below k))
  have Hmy := Lib.hid (fun (v2 : Value) (L : List EntryD) (m : Nat) (hL : costEntryS L ≤ 1048576) (W : World) (k : Below w.heap.size w W) (h2 : Rd Cod.entry W v2 L) => l9Many_any v v2 l L m term lead hl hL W (h.below k) h2)
  have Hce := Lib.hid (fun (k : Nat) (hk : k < l.length) => rep_le hl hk)
  obtain ⟨p, c, rfl, _, _, rr⟩ := h.form
  have RR := Lib.hid rr
  obtain ⟨n, hn⟩ : ∃ n : Nat, l.length = n := ⟨_, rfl⟩
  have Hn := Lib.hid hn
  have hnb : (n : Int) ≤ 1048576 := by unfold costReplicaS at hl; omega
  have Hld := Lib.hid (fun (hg : goodGB l term lead = true) => good_lead hg)
  have Hsu := Lib.hid (fun (hg : goodGB l term lead = true) (k : Nat) (hk : k < l.length) => good_sure hg (List.getElem_mem hk))
  have HE : Hid (advB l term lead = (goodGB l term lead && !decide (lead < 0))) := Lib.hid rfl
  rw [hn] at Hg Ho Hmy ⊢
  clear hn hl h rr
  generalize advB l term lead = Q at *
  generalize goodGB l term lead = q at *
  cases q
  · obtain rfl : Q = false := by rw [HE.out, Bool.false_and]
    clear HE
    dsimp only [pickG]
    go_enter Try.func67, Try.ntmps67
    go_wp2_with fail
    refine (Hg.out _ (by (repeat (first | (with_reducible exact Below.refl _ _) | (with_reducible refine below_setCell ?_ (by first | (simp; done) | (simp; omega) | omega)) | (with_reducible refine below_alloc _ ?_) | (with_reducible refine below_drewN ?_ _) | (with_reducible assumption) | (with_reducible refine below_after (by assumption) ?_))))).mono ?_
    rintro e w1 ⟨rfl, k1⟩
    have b1 : Below w.heap.size w w1 := below_after k1 (by (repeat (first | (with_reducible exact Below.refl _ _) | (with_reducible refine below_setCell ?_ (by first | (simp; done) | (simp; omega) | omega)) | (with_reducible refine below_alloc _ ?_) | (with_reducible refine below_drewN ?_ _) | (with_reducible assumption) | (with_reducible refine below_after (by assumption) ?_))))
    have hx1 := bcell k1
    have c0 : w1.cell? ⟨w.heap.size, 0, none⟩ = some (.slice p n c) := by rw [hx1.1 _ _ (by first | (simp; done) | (simp; omega))]; simp [go_sem]
    have c1 : w1.cell? ⟨w.heap.size, 1, none⟩ = some (.int .i64 term) := by rw [hx1.1 _ _ (by first | (simp; done) | (simp; omega))]; simp [go_sem]
    have c2 : w1.cell? ⟨w.heap.size, 2, none⟩ = some (.int .i64 lead) := by rw [hx1.1 _ _ (by first | (simp; done) | (simp; omega))]; simp [go_sem]
    have r0 : w1.cell? ⟨w.heap.size + 1, 0, none⟩ = some (.slice none 0 0) := by rw [hx1.1 _ _ (by first | (simp; done) | (simp; omega))]; simp [go_sem]
    have r1 : w1.cell? ⟨w.heap.size + 1, 1, none⟩ = some (.int .i64 0) := by rw [hx1.1 _ _ (by first | (simp; done) | (simp; omega))]; simp [go_sem]
    have r2 : w1.cell? ⟨w.heap.size + 1, 2, none⟩ = some (.int .i64 0) := by rw [hx1.1 _ _ (by first | (simp; done) | (simp; omega))]; simp [go_sem]
    have g0 : w1.frozen? ⟨w.heap.size + 1, 0, none⟩ = false := by rw [hx1.2 _ _ (by first | (simp; done) | (simp; omega))]; simp [go_sem]
    have g1 : w1.frozen? ⟨w.heap.size + 1, 1, none⟩ = false := by rw [hx1.2 _ _ (by first | (simp; done) | (simp; omega))]; simp [go_sem]
    have g2 : w1.frozen? ⟨w.heap.size + 1, 2, none⟩ = false := by rw [hx1.2 _ _ (by first | (simp; done) | (simp; omega))]; simp [go_sem]
    have z1 : w.heap.size + 1 < w1.heap.size := by have := k1.size; simp at this; omega
    clear k1 hx1
    go_wp2
    refine bodyPost_ret (v := .tuple #[.agg #[.slice none 0 0, .int .i64 0, .int .i64 0], .bool false]) (by simp [results, Try.results67, go_sem, r0, r1, r2]) rfl ⟨_, rfl, own_nil _ _ _, by (repeat (first | (with_reducible exact Below.refl _ _) | (with_reducible refine below_setCell ?_ (by first | (simp; done) | (simp; omega) | omega)) | (with_reducible refine below_alloc _ ?_) | (with_reducible refine below_drewN ?_ _) | (with_reducible assumption) | (with_reducible refine below_after (by assumption) ?_)))⟩
  · by_cases hneg : lead < 0
    · obtain rfl : Q = false := by rw [HE.out, decide_eq_true hneg]; rfl
      clear HE
      dsimp only [pickG]
      go_enter Try.func67, Try.ntmps67
      go_wp2_with fail
      refine (Hg.out _ (by (repeat (first | (with_reducible exact Below.refl _ _) | (with_reducible refine below_setCell ?_ (by first | (simp; done) | (simp; omega) | omega)) | (with_reducible refine below_alloc _ ?_) | (with_reducible refine below_drewN ?_ _) | (with_reducible assumption) | (with_reducible refine below_after (by assumption) ?_))))).mono ?_
      rintro e w1 ⟨rfl, k1⟩
      have b1 : Below w.heap.size w w1 := below_after k1 (by (repeat (first | (with_reducible exact Below.refl _ _) | (with_reducible refine below_setCell ?_ (by first | (simp; done) | (simp; omega) | omega)) | (with_reducible refine below_alloc _ ?_) | (with_reducible refine below_drewN ?_ _) | (with_reducible assumption) | (with_reducible refine below_after (by assumption) ?_))))
      have hx1 := bcell k1
      have c0 : w1.cell? ⟨w.heap.size, 0, none⟩ = some (.slice p n c) := by rw [hx1.1 _ _ (by first | (simp; done) | (simp; omega))]; simp [go_sem]
      have c1 : w1.cell? ⟨w.heap.size, 1, none⟩ = some (.int .i64 term) := by rw [hx1.1 _ _ (by first | (simp; done) | (simp; omega))]; simp [go_sem]
      have c2 : w1.cell? ⟨w.heap.size, 2, none⟩ = some (.int .i64 lead) := by rw [hx1.1 _ _ (by first | (simp; done) | (simp; omega))]; simp [go_sem]
      have r0 : w1.cell? ⟨w.heap.size + 1, 0, none⟩ = some (.slice none 0 0) := by rw [hx1.1 _ _ (by first | (simp; done) | (simp; omega))]; simp [go_sem]
      have r1 : w1.cell? ⟨w.heap.size + 1, 1, none⟩ = some (.int .i64 0) := by rw [hx1.1 _ _ (by first | (simp; done) | (simp; omega))]; simp [go_sem]
      have r2 : w1.cell? ⟨w.heap.size + 1, 2, none⟩ = some (.int .i64 0) := by rw [hx1.1 _ _ (by first | (simp; done) | (simp; omega))]; simp [go_sem]
      have g0 : w1.frozen? ⟨w.heap.size + 1, 0, none⟩ = false := by rw [hx1.2 _ _ (by first | (simp; done) | (simp; omega))]; simp [go_sem]
      have g1 : w1.frozen? ⟨w.heap.size + 1, 1, none⟩ = false := by rw [hx1.2 _ _ (by first | (simp; done) | (simp; omega))]; simp [go_sem]
      have g2 : w1.frozen? ⟨w.heap.size + 1, 2, none⟩ = false := by rw [hx1.2 _ _ (by first | (simp; done) | (simp; omega))]; simp [go_sem]
      have z1 : w.heap.size + 1 < w1.heap.size := by have := k1.size; simp at this; omega
      clear k1 hx1
      go_wp2
      refine bodyPost_ret (v := .tuple #[.agg #[.slice none 0 0, .int .i64 0, .int .i64 0], .bool false]) (by simp [results, Try.results67, go_sem, r0, r1, r2]) rfl ⟨_, rfl, own_nil _ _ _, by (repeat (first | (with_reducible exact Below.refl _ _) | (with_reducible refine below_setCell ?_ (by first | (simp; done) | (simp; omega) | omega)) | (with_reducible refine below_alloc _ ?_) | (with_reducible refine below_drewN ?_ _) | (with_reducible assumption) | (with_reducible refine below_after (by assumption) ?_)))⟩
    · obtain ⟨k, rfl, hkl, h60⟩ := Hld.out rfl hneg
      have hkn : (k : Int) < (n : Int) := by have := Hn.out; omega
      have hk0 : (0 : Int) ≤ (k : Int) := by omega
      have hnd : decide ((k : Int) < 0) = false := decide_eq_false (by omega)
      obtain rfl : Q = true := by rw [HE.out, hnd]; rfl
      clear HE
      dsimp only [pickG]
      have Hst := Lib.hid (advL_nat term hkl)
      obtain ⟨g, o, rfl, hg, hc⟩ := RR.out (by omega)
      obtain ⟨dU, ⟨vL, dL, rL⟩, tS, zT⟩ := at_replica (hc k hkl)
      rw [show o + k * Cod.replica.size = o + k * 3 from rfl] at dU dL tS
      obtain ⟨s, hs, hsl⟩ := Hsu.out rfl k hkl
      rw [hs] at tS
      have Hce2 := Lib.hid (Hce.out k hkl)
      have Hsame : Hid (l.set k { l[k] with Sure := (s : Int) } = l) := Lib.hid (by rw [← hs]; exact List.set_getElem_self hkl)
      rw [hs] at Hst
      rw [Int.toNat_natCast] at Hst
      obtain ⟨pL, cL, rfl, hlc, -, rl⟩ := rL.form
      have hLl : (l[k].Log.length : Int) ≤ 60 := by omega
      have hsL : s ≤ l[k].Log.length := by omega
      have hsl2 : (s : Int) ≤ 60 := by omega
      have Hfa := Lib.hid (fun (j : Nat) (hj : j < l[k].Log.length) => advF_at l term l[k].Log hj)
      obtain ⟨F, hF⟩ : ∃ F, advF l term l[k].Log = F := ⟨_, rfl⟩
      rw [hF] at Hst Hfa
      have HRl := Lib.hid rL
      have Hrl := Lib.hid rl
      have HK : Hid (∀ z : Int, { l[k] with Sure := z } = (⟨l[k].Up, l[k].Log, z⟩ : ReplicaD)) := Lib.hid (fun _ => rfl)
      obtain ⟨x, hx⟩ : ∃ x, l[k] = x := ⟨_, rfl⟩
      have Hx := Lib.hid hx
      rw [hx] at dU dL hLl hsL Hst Hfa Hce2 HRl Hrl Hsame
      clear hc rL rl RR hs hsl zT Hsu Hld h60 hx HK hF hlc
      obtain ⟨nL, hnL⟩ : ∃ nL, x.Log.length = nL := ⟨_, rfl⟩
      have HnL := Lib.hid hnL
      rw [hnL] at dL hLl hsL Hst HRl
      clear hnL
      go_enter Try.func67, Try.ntmps67
      go_wp2_with fail
      refine (Hg.out _ (by (repeat (first | (with_reducible exact Below.refl _ _) | (with_reducible refine below_setCell ?_ (by first | (simp; done) | (simp; omega) | omega)) | (with_reducible refine below_alloc _ ?_) | (with_reducible refine below_drewN ?_ _) | (with_reducible assumption) | (with_reducible refine below_after (by assumption) ?_))))).mono ?_
      rintro e w1 ⟨rfl, k1⟩
      have b1 : Below w.heap.size w w1 := below_after k1 (by (repeat (first | (with_reducible exact Below.refl _ _) | (with_reducible refine below_setCell ?_ (by first | (simp; done) | (simp; omega) | omega)) | (with_reducible refine below_alloc _ ?_) | (with_reducible refine below_drewN ?_ _) | (with_reducible assumption) | (with_reducible refine below_after (by assumption) ?_))))
      have hx1 := bcell k1
      have c0 : w1.cell? ⟨w.heap.size, 0, none⟩ = some (.slice (some ⟨g, o, none⟩) n c) := by rw [hx1.1 _ _ (by first | (simp; done) | (simp; omega))]; simp [go_sem]
      have c1 : w1.cell? ⟨w.heap.size, 1, none⟩ = some (.int .i64 term) := by rw [hx1.1 _ _ (by first | (simp; done) | (simp; omega))]; simp [go_sem]
      have c2 : w1.cell? ⟨w.heap.size, 2, none⟩ = some (.int .i64 (k : Int)) := by rw [hx1.1 _ _ (by first | (simp; done) | (simp; omega))]; simp [go_sem]
      have r0 : w1.cell? ⟨w.heap.size + 1, 0, none⟩ = some (.slice none 0 0) := by rw [hx1.1 _ _ (by first | (simp; done) | (simp; omega))]; simp [go_sem]
      have r1 : w1.cell? ⟨w.heap.size + 1, 1, none⟩ = some (.int .i64 0) := by rw [hx1.1 _ _ (by first | (simp; done) | (simp; omega))]; simp [go_sem]
      have r2 : w1.cell? ⟨w.heap.size + 1, 2, none⟩ = some (.int .i64 0) := by rw [hx1.1 _ _ (by first | (simp; done) | (simp; omega))]; simp [go_sem]
      have g0 : w1.frozen? ⟨w.heap.size + 1, 0, none⟩ = false := by rw [hx1.2 _ _ (by first | (simp; done) | (simp; omega))]; simp [go_sem]
      have g1 : w1.frozen? ⟨w.heap.size + 1, 1, none⟩ = false := by rw [hx1.2 _ _ (by first | (simp; done) | (simp; omega))]; simp [go_sem]
      have g2 : w1.frozen? ⟨w.heap.size + 1, 2, none⟩ = false := by rw [hx1.2 _ _ (by first | (simp; done) | (simp; omega))]; simp [go_sem]
      have z1 : w.heap.size + 1 < w1.heap.size := by have := k1.size; simp at this; omega
      clear k1 hx1
      replace dU := cell_step b1 dU
      replace dL := cell_step b1 dL
      replace tS := cell_step b1 tS
      have zi : w.heap.size + 1 < w1.heap.size := z1
      go_wp2_with fail
      refine (Ho.out _ b1).mono ?_
      rintro e w2 ⟨v', rfl, o2, k2⟩
      obtain ⟨p', c', rfl⟩ := o2.form
      obtain ⟨g', o', rfl, hg1, hg2, -, -⟩ := own_atR o2 k hkl
      have b2 : Below w.heap.size w w2 := below_after k2 b1
      replace c0 := cell_step k2 c0
      replace c1 := cell_step k2 c1
      replace c2 := cell_step k2 c2
      replace r0 := cell_step k2 r0
      replace r1 := cell_step k2 r1
      replace r2 := cell_step k2 r2
      replace dU := cell_step k2 dU
      replace dL := cell_step k2 dL
      replace tS := cell_step k2 tS
      replace g0 : w2.frozen? ⟨w.heap.size + 1, 0, none⟩ = false := (k2.frozen (p := ⟨w.heap.size + 1, 0, none⟩) z1).trans g0
      replace g1 : w2.frozen? ⟨w.heap.size + 1, 1, none⟩ = false := (k2.frozen (p := ⟨w.heap.size + 1, 1, none⟩) z1).trans g1
      replace g2 : w2.frozen? ⟨w.heap.size + 1, 2, none⟩ = false := (k2.frozen (p := ⟨w.heap.size + 1, 2, none⟩) z1).trans g2
      replace z1 : w.heap.size + 1 < w2.heap.size := Nat.lt_of_lt_of_le z1 k2.size
      have z2 : w1.heap.size ≤ w2.heap.size := k2.size
      have hn3 : l.length = n := Hn.out
      rw [hn3] at o2 ⊢
      have O2 := Lib.hid o2
      clear o2 k2
      have zz0 : w.heap.size < w2.heap.size := by omega
      have zz1 : w.heap.size + 1 < w2.heap.size := by omega
      have zzg : g < w2.heap.size := by have := b2.size; omega
      go_upto_region 4 with fail
      generalize hw3 : World.alloc _ _ = w3
      have b3 : Below w.heap.size w w3 := by rw [← hw3]; (repeat (first | (with_reducible exact Below.refl _ _) | (with_reducible refine below_setCell ?_ (by first | (simp; done) | (simp; omega) | omega)) | (with_reducible refine below_alloc _ ?_) | (with_reducible refine below_drewN ?_ _) | (with_reducible assumption) | (with_reducible refine below_after (by assumption) ?_)))
      have q0 : w3.cell? ⟨w2.heap.size, 0, none⟩ = some (.slice (some ⟨g', o', none⟩) n c') := by rw [← hw3]; simp [go_sem]
      have q1 : w3.cell? ⟨w2.heap.size, 1, none⟩ = some (.int .i64 term) := by rw [← hw3]; simp [go_sem]
      have q2 : w3.cell? ⟨w2.heap.size, 2, none⟩ = some (.int .i64 (k : Int)) := by rw [← hw3]; simp [go_sem]
      have z3 : w2.heap.size < w3.heap.size := by rw [← hw3]; simp
      have m3 : Below w2.heap.size w2 w3 := by rw [← hw3]; exact below_new _ _
      replace c0 := cell_step m3 c0
      replace c1 := cell_step m3 c1
      replace c2 := cell_step m3 c2
      replace r0 := cell_step m3 r0
      replace r1 := cell_step m3 r1
      replace r2 := cell_step m3 r2
      replace dU := cell_step m3 dU
      replace dL := cell_step m3 dL
      replace tS := cell_step m3 tS
      replace g0 : w3.frozen? ⟨w.heap.size + 1, 0, none⟩ = false := (m3.frozen (p := ⟨w.heap.size + 1, 0, none⟩) z1).trans g0
      replace g1 : w3.frozen? ⟨w.heap.size + 1, 1, none⟩ = false := (m3.frozen (p := ⟨w.heap.size + 1, 1, none⟩) z1).trans g1
      replace g2 : w3.frozen? ⟨w.heap.size + 1, 2, none⟩ = false := (m3.frozen (p := ⟨w.heap.size + 1, 2, none⟩) z1).trans g2
      replace z1 : w.heap.size + 1 < w3.heap.size := Nat.lt_of_lt_of_le z1 m3.size
      replace zz0 : w.heap.size < w3.heap.size := by omega
      replace zzg : g < w3.heap.size := by omega
      clear hw3
      go_upto_region 5 with fail
      generalize hw4 : World.alloc _ _ = w4
      have b4 : Below w.heap.size w w4 := by rw [← hw4]; (repeat (first | (with_reducible exact Below.refl _ _) | (with_reducible refine below_setCell ?_ (by first | (simp; done) | (simp; omega) | omega)) | (with_reducible refine below_alloc _ ?_) | (with_reducible refine below_drewN ?_ _) | (with_reducible assumption) | (with_reducible refine below_after (by assumption) ?_)))
      have e1 : w4.cell? ⟨w3.heap.size, 1, none⟩ = some (.slice pL nL cL) := by rw [← hw4]; simp [go_sem]
      have e2 : w4.cell? ⟨w3.heap.size, 2, none⟩ = some (.int .i64 (s : Int)) := by rw [← hw4]; simp [go_sem]
      have z4 : w3.heap.size < w4.heap.size := by rw [← hw4]; simp
      have m4 : Below w3.heap.size w3 w4 := by rw [← hw4]; exact below_new _ _
      replace c0 := cell_step m4 c0
      replace c1 := cell_step m4 c1
      replace c2 := cell_step m4 c2
      replace r0 := cell_step m4 r0
      replace r1 := cell_step m4 r1
      replace r2 := cell_step m4 r2
      replace q0 := cell_step m4 q0
      replace q1 := cell_step m4 q1
      replace q2 := cell_step m4 q2
      replace g0 : w4.frozen? ⟨w.heap.size + 1, 0, none⟩ = false := (m4.frozen (p := ⟨w.heap.size + 1, 0, none⟩) z1).trans g0
      replace g1 : w4.frozen? ⟨w.heap.size + 1, 1, none⟩ = false := (m4.frozen (p := ⟨w.heap.size + 1, 1, none⟩) z1).trans g1
      replace g2 : w4.frozen? ⟨w.heap.size + 1, 2, none⟩ = false := (m4.frozen (p := ⟨w.heap.size + 1, 2, none⟩) z1).trans g2
      replace z1 : w.heap.size + 1 < w4.heap.size := Nat.lt_of_lt_of_le z1 m4.size
      have m24 : Below w2.heap.size w2 w4 := m3.trans (m4.mono m3.size)
      clear hw4 m3 m4 b3 b2 dU dL tS
      have zz3 : w2.heap.size < w4.heap.size := by omega
      have zz4 : g' < w4.heap.size := by omega
      obtain ⟨hfr, y0, y1, y2, hy0, hy1, hy2⟩ := own_cells3 O2.out k hkl
      have hf2 := (m24.frozen (p := ⟨g', o' + k * 3 + 2, none⟩) hg2).trans (hfr _)
      replace hy2 := cell_step m24 hy2
      clear hfr hy0 hy1
      go_wp2
      go_loopw [6] (fun i wr => ∃ j : Nat, i = .int .i64 (j : Int) ∧ s ≤ j ∧ j ≤ nL ∧ Hid (advN F s nL = advN F s j) ∧ Below w4.heap.size w4 wr) (fun i _ => (intOf i).toNat)
      case atStart => exact ⟨nL, rfl, hsL, Nat.le_refl _, Lib.hid rfl, Below.refl _ _⟩
      case round =>
        obtain ⟨j, rfl, hsj, hj, HN, hb⟩ := hrel
        replace c0 := cell_step hb c0
        replace c1 := cell_step hb c1
        replace c2 := cell_step hb c2
        replace r0 := cell_step hb r0
        replace r1 := cell_step hb r1
        replace r2 := cell_step hb r2
        replace e1 := cell_step hb e1
        replace e2 := cell_step hb e2
        replace q0 := cell_step hb q0
        replace q1 := cell_step hb q1
        replace q2 := cell_step hb q2
        replace hy2 := cell_step hb hy2
        replace g0 : wr.frozen? ⟨w.heap.size + 1, 0, none⟩ = false := (hb.frozen (p := ⟨w.heap.size + 1, 0, none⟩) z1).trans g0
        replace g1 : wr.frozen? ⟨w.heap.size + 1, 1, none⟩ = false := (hb.frozen (p := ⟨w.heap.size + 1, 1, none⟩) z1).trans g1
        replace g2 : wr.frozen? ⟨w.heap.size + 1, 2, none⟩ = false := (hb.frozen (p := ⟨w.heap.size + 1, 2, none⟩) z1).trans g2
        replace z1 : w.heap.size + 1 < wr.heap.size := Nat.lt_of_lt_of_le z1 hb.size
        have zr2 : w2.heap.size < wr.heap.size := Nat.lt_of_lt_of_le zz3 hb.size
        have zr3 : w3.heap.size < wr.heap.size := Nat.lt_of_lt_of_le z4 hb.size
        have zr0 : w.heap.size < wr.heap.size := by omega
        replace hf2 := (hb.frozen (p := ⟨g', o' + k * 3 + 2, none⟩) zz4).trans hf2
        have zr4 : g' < wr.heap.size := Nat.lt_of_lt_of_le zz4 hb.size
        have bw : Below w.heap.size w wr := below_after hb b4
        have m2r : Below w2.heap.size w2 wr := m24.trans (hb.mono m24.size)
        by_cases hlt : j ≤ s
        · obtain rfl : j = s := by omega
          have HL : Hid (advN F j nL = j) := Lib.hid (HN.out.trans (advN_stop F j))
          have OO := Lib.hid (O2.out.keep (Nat.le_refl _) (keep_below m2r (Keep.refl _ _)))
          have hz : (j : Int) ≤ (j : Int) := Int.le_refl _
          clear HN
          go_wp2
          all_goals
            refine bodyPost_ret (v := .tuple #[.agg #[.slice (some ⟨g', o', none⟩) n c', .int .i64 term, .int .i64 (k : Int)], .bool true]) (by simp [results, Try.results67, go_sem, r0, r1, r2, g0, g1, g2]) rfl ⟨.slice (some ⟨g', o', none⟩) n c', rfl, ?_, by (repeat (first | (with_reducible exact Below.refl _ _) | (with_reducible refine below_setCell ?_ (by first | (simp; done) | (simp; omega) | omega)) | (with_reducible refine below_alloc _ ?_) | (with_reducible refine below_drewN ?_ _) | (with_reducible assumption) | (with_reducible refine below_after (by assumption) ?_)))⟩
            rw [Hst.out, HL.out, Hsame.out]
            exact (own_weakR (OO.out.keep (Nat.le_refl _) (by (repeat (first | (with_reducible exact Keep.refl _ _) | (with_reducible refine keep_set ?_ (by first | (simp; done) | (simp; omega) | omega)) | (with_reducible refine keep_alloc _ ?_) | (with_reducible refine keep_drewN ?_ _) | (with_reducible assumption) | (with_reducible refine keep_below (by assumption) ?_)))))).mono (by omega)
        · obtain ⟨i, rfl⟩ : ∃ i, j = i + 1 := ⟨j - 1, by omega⟩
          have hil : i < x.Log.length := by have := HnL.out; omega
          have hi1 : (s : Int) < ((i + 1 : Nat) : Int) := by omega
          have hi2 : (i : Int) < (nL : Int) := by omega
          have hi3 : (i : Int) ≤ 60 := by omega
          obtain ⟨ge, oe, rfl, hge, hce⟩ := Hrl.out (by omega)
          obtain ⟨d0, -, -, -, -, -, -, -, -⟩ := at_entry (hce i hil)
          rw [show oe + i * Cod.entry.size = oe + i * 8 from rfl] at d0
          replace d0 := cell_step bw d0
          replace hge : ge < wr.heap.size := by have := bw.size; omega
          have Hfi := Lib.hid (Hfa.out i hil)
          have Hmi := Lib.hid (fun (W : World) (b : Below w.heap.size w W) => Hmy.out (.slice (some ⟨ge, oe, none⟩) nL cL) x.Log (i + 1) Hce2.out W b (HRl.out.below b))
          have HNo := Lib.hid (fun hf => HN.out.trans (advN_no (f := F) (s := s) (n := i) (by omega) hf))
          have HYe := Lib.hid (fun hf => HN.out.trans (advN_yes (f := F) (s := s) (n := i) (by omega) hf))
          have Hcl : Hid (l.countP (fun y => begB y.Log x.Log (i + 1)) ≤ n) := Lib.hid (by rw [← Hn.out]; exact List.countP_le_length)
          rw [Hn.out] at Hfi
          generalize (l.countP fun y => begB y.Log x.Log (i + 1)) = cn at *
          have hcn : (cn : Int) ≤ 1048576 := by have := Hcl.out; omega
          generalize x.Log[i].Term = T at *
          clear hce HN hil Hfa Hmy
          by_cases hT : T = term
          · subst hT
            by_cases hm : n < 2 * cn
            · have hmI : (n : Int) < 2 * (cn : Int) := by omega
              have HL : Hid (advN F s nL = i + 1) := Lib.hid (HYe.out (by rw [Hfi.out]; simp [hm]))
              clear HNo HYe Hfi
              go_upto_region 8 with fail
              refine wp_region_ext (by kernel_rfl) (by kernel_rfl) wr.heap.size ?_
              have hx2 := fun (u : World) (b o : Nat) (h : b < wr.heap.size) => ext_cell wr u b o h
              repeat (any_goals (go_big_quiet_step ((go_at_call 83; (refine calls_ext (Nat.le_refl _) (Hmi.out _ (bw.trans ((ext_below _ _ _).mono bw.size))))))))
              refine wpQuiet_nil ?_
              intro w5 hb5
              clear hx2
              replace c0 := cell_step hb5 c0
              replace c1 := cell_step hb5 c1
              replace c2 := cell_step hb5 c2
              replace r0 := cell_step hb5 r0
              replace r1 := cell_step hb5 r1
              replace r2 := cell_step hb5 r2
              replace e1 := cell_step hb5 e1
              replace e2 := cell_step hb5 e2
              replace q0 := cell_step hb5 q0
              replace q1 := cell_step hb5 q1
              replace q2 := cell_step hb5 q2
              replace hy2 := cell_step hb5 hy2
              replace g0 : w5.frozen? ⟨w.heap.size + 1, 0, none⟩ = false := (hb5.frozen (p := ⟨w.heap.size + 1, 0, none⟩) z1).trans g0
              replace g1 : w5.frozen? ⟨w.heap.size + 1, 1, none⟩ = false := (hb5.frozen (p := ⟨w.heap.size + 1, 1, none⟩) z1).trans g1
              replace g2 : w5.frozen? ⟨w.heap.size + 1, 2, none⟩ = false := (hb5.frozen (p := ⟨w.heap.size + 1, 2, none⟩) z1).trans g2
              replace z1 : w.heap.size + 1 < w5.heap.size := Nat.lt_of_lt_of_le z1 hb5.size
              replace zr2 : w2.heap.size < w5.heap.size := Nat.lt_of_lt_of_le zr2 hb5.size
              replace zr0 : w.heap.size < w5.heap.size := by omega
              replace hf2 := (hb5.frozen (p := ⟨g', o' + k * 3 + 2, none⟩) zr4).trans hf2
              replace zr4 : g' < w5.heap.size := Nat.lt_of_lt_of_le zr4 hb5.size
              replace bw : Below w.heap.size w w5 := below_after hb5 bw
              replace m2r : Below w2.heap.size w2 w5 := m2r.trans (hb5.mono m2r.size)
              have O5 : Hid (Own Cod.replicaR (w5.setCell ⟨g', o' + k * 3 + 2, none⟩ (.int .i64 ((i : Int) + 1))) w1.heap.size (.slice (some ⟨g', o', none⟩) n c') (l.set k ⟨x.Up, x.Log, (i : Int) + 1⟩)) := Lib.hid (by
                have h := own_setSure (O2.out.keep (Nat.le_refl _) (keep_below m2r (Keep.refl _ _))) k hkl ((i : Int) + 1) (by unfold I64; omega)
                rw [Hx.out] at h
                exact h)
              have HS2 : Hid (advL l T (k : Int) = l.set k ⟨x.Up, x.Log, (i : Int) + 1⟩) := Lib.hid (by rw [Hst.out, HL.out, Int.natCast_add]; rfl)
              have hne1 : w.heap.size + 1 ≠ g' := by omega
              have hne3 : w2.heap.size ≠ g' := by omega
              go_upto_region 10 with fail
              generalize hw6 : World.setCell _ _ _ = w6
              rw [hw6] at O5
              have ot : ∀ b i, b ≠ g' → w6.cell? ⟨b, i, none⟩ = w5.cell? ⟨b, i, none⟩ := fun b i hb => by rw [← hw6, World.cell?_setCell_other _ _ _ _ (fun e => hb (congrArg Addr.block e).symm)]
              have of : ∀ p, w6.frozen? p = w5.frozen? p := fun p => by rw [← hw6, World.frozen?_setCell]
              have b6 : Below w.heap.size w w6 := by rw [← hw6]; exact below_setCell bw (by simp; omega)
              rw [← ot _ _ hne1] at r0 r1 r2
              rw [← ot _ _ hne3] at q0 q1 q2
              rw [← of] at g0 g1 g2
              clear hw6 ot of hf2 hy2 b4 hb hb5
              go_wp2
              all_goals
                refine bodyPost_ret (v := .tuple #[.agg #[.slice (some ⟨g', o', none⟩) n c', .int .i64 T, .int .i64 (k : Int)], .bool true]) (by simp [results, Try.results67, go_sem, r0, r1, r2, g0, g1, g2]) rfl ⟨.slice (some ⟨g', o', none⟩) n c', rfl, ?_, by (repeat (first | (with_reducible exact Below.refl _ _) | (with_reducible refine below_setCell ?_ (by first | (simp; done) | (simp; omega) | omega)) | (with_reducible refine below_alloc _ ?_) | (with_reducible refine below_drewN ?_ _) | (with_reducible assumption) | (with_reducible refine below_after (by assumption) ?_)))⟩
                rw [HS2.out]
                exact (own_weakR (O5.out.keep (Nat.le_refl _) (by (repeat (first | (with_reducible exact Keep.refl _ _) | (with_reducible refine keep_set ?_ (by first | (simp; done) | (simp; omega) | omega)) | (with_reducible refine keep_alloc _ ?_) | (with_reducible refine keep_drewN ?_ _) | (with_reducible assumption) | (with_reducible refine keep_below (by assumption) ?_)))))).mono (by omega)
            · have hmI : 2 * (cn : Int) ≤ (n : Int) := by omega
              have HNX : Hid (advN F s nL = advN F s i) := Lib.hid (HNo.out (by rw [Hfi.out]; simp [hm]))
              clear HNo HYe Hfi
              go_upto_region 8 with fail
              refine wp_region_ext (by kernel_rfl) (by kernel_rfl) wr.heap.size ?_
              have hx2 := fun (u : World) (b o : Nat) (h : b < wr.heap.size) => ext_cell wr u b o h
              repeat (any_goals (go_big_quiet_step ((go_at_call 83; (refine calls_ext (Nat.le_refl _) (Hmi.out _ (bw.trans ((ext_below _ _ _).mono bw.size))))))))
              refine wpQuiet_nil ?_
              intro w5 hb5
              clear hx2
              go_wp2
              go_roundw
              case rel => exact ⟨i, by go_num, by omega, by omega, HNX, hb.trans (hb5.mono hb.size)⟩
              case measure => simp [intOf]
          · have hTb : (T == term) = false := by simpa using hT
            have HNX : Hid (advN F s nL = advN F s i) := Lib.hid (HNo.out (by rw [Hfi.out, hTb, Bool.false_and]))
            clear HNo HYe Hfi
            go_upto_region 8 with fail
            refine wp_region_ext (by kernel_rfl) (by kernel_rfl) wr.heap.size ?_
            have hx2 := fun (u : World) (b o : Nat) (h : b < wr.heap.size) => ext_cell wr u b o h
            repeat (any_goals (go_big_quiet_step (fail)))
            refine wpQuiet_nil ?_
            intro w5 hb5
            clear hx2
            go_wp2
            go_roundw
            case rel => exact ⟨i, by go_num, by omega, by omega, HNX, hb.trans (hb5.mono hb.size)⟩
            case measure => simp [intOf]

end Go.Proofs.Ytfaefjdlfjhniaa

