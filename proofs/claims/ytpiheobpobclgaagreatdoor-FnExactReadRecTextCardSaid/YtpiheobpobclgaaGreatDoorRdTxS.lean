/- spec.ReadRecText. Printed by mkrdtxs.py. -/
import Derived.Test.YtpiheobpobclgaaGreatDoorRdTxV
import Derived.Test.YtpiheobpobclgaaGreatDoorRecCost
import Derived.Deep.DeepCutAuto
namespace Go.Proofs.YtpiheobpobclgaaGreatDoor
open Go.RowKit

/-- What ReadRecText does. -/
def TxPost (s : ByteArray) (w : World) (e : Ending) (w' : World) : Prop := ∃ (x : RecD) (q : Bool) (pr : Option Addr) (cr : Nat) (pw : Option Addr) (cw : Nat), recRT s = (x, q) ∧ e = .returned (.tuple #[.agg #[.int .i64 x.Kind, .int .i64 x.Txn, .int .i64 x.Time, .int .i64 x.Lead, .slice pr x.Reads.length cr, .slice pw x.Writes.length cw, .bool x.Yes], .bool q]) ∧
  Own2 Cod.str Cod.write w' w.heap.size w'.heap.size (.slice pr x.Reads.length cr) (.slice pw x.Writes.length cw) x.Reads x.Writes ∧ Below w.heap.size w w'
theorem tx_zero {s : ByteArray} {w w' : World} (h : recRT s = (zeroR 0, false)) (b : Below w.heap.size w w') : TxPost s w (.returned (.tuple #[.agg #[.int .i64 0, .int .i64 0, .int .i64 0, .int .i64 0, .slice none 0 0, .slice none 0 0, .bool false], .bool false])) w' :=
  ⟨zeroR 0, false, none, 0, none, 0, h, rfl, (rows_start w' w.heap.size).two, b⟩
theorem tx_yes {s : ByteArray} {w w' : World} {base : Nat} {K T Ti L : Int} {R : List ByteArray} {W : List WriteD} {Y : Bool} {pR pW : Option Addr} {nR nW cR cW : Nat} (h : recRT s = (⟨K, T, Ti, L, R, W, Y⟩, true)) (hR : R.length = nR) (hW : W.length = nW) (hr : RowsOf w' base (.slice pR nR cR) (.slice pW nW cW) R W) (hb : w.heap.size ≤ base) (b : Below w.heap.size w w') :
    TxPost s w (.returned (.tuple #[.agg #[.int .i64 K, .int .i64 T, .int .i64 Ti, .int .i64 L, .slice pR nR cR, .slice pW nW cW, .bool Y], .bool true])) w' := by
  subst hR hW
  exact ⟨_, true, pR, cR, pW, cW, h, rfl, hr.two.mono hb, b⟩
theorem recRT_long {s : ByteArray} (h : ¬ s.size ≤ 400) : recRT s = (zeroR 0, false) := if_pos (by omega)
theorem recRT_le {s : ByteArray} (h : s.size ≤ 400) : recRT s = recR s := if_neg (by omega)

set_option maxRecDepth 100000 in
set_option maxHeartbeats 6400000 in
/-- spec.ReadRecText -/
theorem readRecTextS_any (s : ByteArray) (hs : s.size ≤ 1048576) (w : World) : Calls Tryz.prog 4 #[.string s] w (TxPost s w) := by
  have hsI : (s.size : Int) ≤ 1048576 := by omega
  by_cases hlen : s.size ≤ 400
  rotate_left
  · have HQ := Lib.hid (recRT_long hlen)
    have hlI : (400 : Int) < (s.size : Int) := by omega
    clear hlen hs
    go_enter Tryz.func4, Tryz.ntmps4
    go_wp2
    refine bodyPost_ret (v := .tuple #[.agg #[.int .i64 0, .int .i64 0, .int .i64 0, .int .i64 0, .slice none 0 0, .slice none 0 0, .bool false], .bool false]) (by simp [results, Tryz.results4, go_sem]) rfl ?_
    exact tx_zero HQ.out (by (repeat (first | (with_reducible exact Below.refl _ _) | (with_reducible refine below_setCell ?_ (by first | (simp; done) | (simp; omega) | omega)) | (with_reducible refine below_alloc _ ?_) | (with_reducible refine below_drewN ?_ _) | (with_reducible assumption) | (with_reducible refine below_after (by assumption) ?_))))
  have hlI : (s.size : Int) ≤ 400 := by omega
  have HQ := Lib.hid ((recRT_le hlen).trans (recR_S s))
  have Hle := Lib.hid hlen
  have Hsp := Lib.hid (fun W => l1Split_any s 32 hlen W)
  rw [show (((32 : UInt8).toNat : Nat) : Int) = 32 from rfl] at Hsp
  clear hlen hs
  go_enter Tryz.func4, Tryz.ntmps4
  go_wp2_with fail
  refine (Hsp.out _).mono ?_
  rintro e w1 ⟨v1, xs, rfl, o1, hx, k1⟩
  have Z := (Blk.new w 25 #[.int .i64 0, .int .i64 0, .int .i64 0, .int .i64 0, .slice none 0 0, .slice none 0 0, .bool false]).below k1
  have b1 : Below w.heap.size w w1 := below_after k1 (by (repeat (first | (with_reducible exact Below.refl _ _) | (with_reducible refine below_setCell ?_ (by first | (simp; done) | (simp; omega) | omega)) | (with_reducible refine below_alloc _ ?_) | (with_reducible refine below_drewN ?_ _) | (with_reducible assumption) | (with_reducible refine below_after (by assumption) ?_))))
  have Hx : Hid (xs = wordsT s) := Lib.hid (by
    unfold wordsT
    rw [← hx, List.map_map]
    have e3 : ((fun p : List UInt8 => (⟨p.toArray⟩ : ByteArray)) ∘ fun s : ByteArray => s.data.toList) = id := funext fun s => mk_list s
    rw [e3, List.map_id])
  have hn0 : 0 < xs.length := List.length_pos_iff.2 fun e => by subst e; exact spl_ne3 _ _ _ hx.symm
  have Hsz : Hid (∀ x ∈ xs, x.size ≤ 400) := Lib.hid fun x h => Nat.le_trans (spl_sizes3 hx h) Hle.out
  have hnb : xs.length ≤ 401 := by
    have h1 := spl_length 32 s.data.toList []
    have h3 := congrArg List.length hx
    rw [List.length_map] at h3
    have h2 : s.data.toList.length = s.size := by rw [Array.length_toList]; rfl
    have := Hle.out
    omega
  obtain ⟨p1, c1, hv, r1⟩ := o1.rd.strRow
  have hcap : xs.length ≤ c1 := by
    obtain ⟨p0, c0, hv0, h1, _⟩ := o1.rd.form
    rw [hv] at hv0
    injection hv0 with _ _ e
    omega
  obtain ⟨g, o, rfl, hg, hc⟩ := r1 hn0
  have HC := Lib.hid hc
  obtain ⟨u, hu⟩ : ∃ u, xs[0] = u := ⟨_, rfl⟩
  have hc0 : w1.cell? ⟨g, o, none⟩ = some (.string u) := by have := hc 0 hn0; rw [hu] at this; simpa using this
  have Hg0 : Hid (xs.getD 0 ⟨#[]⟩ = u) := Lib.hid (by rw [List.getD_eq_getElem?_getD, List.getElem?_eq_getElem hn0, hu]; rfl)
  obtain ⟨n, hn⟩ : ∃ n, xs.length = n := ⟨_, rfl⟩
  have Hn := Lib.hid hn
  rw [hn] at hv hn0 hnb hcap
  subst hv
  have q1 : w.heap.size < w1.heap.size := Z.lt
  have hnI : (0 : Int) < (n : Int) := by omega
  have hnI1 : (1 : Int) ≤ (n : Int) := by omega
  have hnI2 : (n : Int) ≤ 401 := by omega
  clear hc r1 o1 hx k1 Hsp hn hu
  go_wp2_with fail
  refine (l4Words5_any _).mono ?_
  rintro e w2 ⟨N, rfl, hN, hN2, hw, k2⟩
  have hN3 : w1.heap.size < N := by simp at hN; omega
  have b2 : Below w1.heap.size w1 w2 := below_after k2 (by (repeat (first | (with_reducible exact Below.refl _ _) | (with_reducible refine below_setCell ?_ (by first | (simp; done) | (simp; omega) | omega)) | (with_reducible refine below_alloc _ ?_) | (with_reducible refine below_drewN ?_ _) | (with_reducible assumption) | (with_reducible refine below_after (by assumption) ?_))))
  have C := (Blk.new w1 25 #[.int .i64 0, .int .i64 0, .int .i64 0, .int .i64 0, .slice none 0 0, .slice none 0 0, .bool false]).below k2
  have HW := Lib.hid hw
  clear hw k2
  replace Z := Z.below b2
  go_wp2_with fail
  go_loopw [19] (fun i wr => ∃ k : Nat, i = .int .i64 (k : Int) ∧ k ≤ 5 ∧ Hid (Blk wr w.heap.size 25 #[.int .i64 0, .int .i64 0, .int .i64 0, .int .i64 0, .slice none 0 0, .slice none 0 0, .bool false]) ∧ Hid (Blk wr w1.heap.size 25 #[.int .i64 (kindAtR u k), .int .i64 0, .int .i64 0, .int .i64 0, .slice none 0 0, .slice none 0 0, .bool false]) ∧ Hid (∀ j, j < 5 → wr.cell? ⟨N, j, none⟩ = some (.string (wordBs.getD j ⟨#[]⟩))) ∧ Below w1.heap.size w1 wr) (fun i _ => 5 - (RowKit.intOf i).toNat)
  case atStart => exact ⟨0, rfl, Nat.zero_le _, Lib.hid Z, Lib.hid C, HW, b2⟩
  case round =>
    obtain ⟨k, rfl, hk, HZ, HCb, HW', hb⟩ := hrel
    clear Z C HW b2
    have u0 : wr.cell? ⟨g, o, none⟩ = some (.string u) := (hb.cell (p := ⟨g, o, none⟩) hg).trans hc0
    have zz : w1.heap.size < wr.heap.size := HCb.out.lt
    have d0 := HCb.out.cell 0 (v := .int .i64 (kindAtR u k)) rfl
    have f0 := HCb.out.frozen 0
    by_cases hlt : k < 5
    · have hlt2 : (k : Int) < 5 := by omega
      have hwk := HW'.out k hlt
      have hNb : N ≠ w1.heap.size := by omega
      have hnx : Hid (kindAtR u (k + 1) = if 0 < k ∧ wordBs.getD k ⟨#[]⟩ = u then (k : Int) else kindAtR u k) := Lib.hid rfl
      generalize wordBs.getD k ⟨#[]⟩ = x at *
      by_cases hk0 : 0 < k
      · have hk0I : 0 < (k : Int) := by omega
        by_cases hxu : x = u
        · subst hxu
          have HC3 := Lib.hid (HCb.out.set 0 (.int .i64 (k : Int)))
          have HZ3 := Lib.hid (HZ.out.other (b := w1.heap.size) 0 (.int .i64 (k : Int)) (by omega))
          go_wp2
          go_roundw
          case rel => exact ⟨k + 1, by go_num, by omega, HZ3, Lib.hid (by rw [hnx.out, if_pos ⟨hk0, rfl⟩]; exact HC3.out), Lib.hid (fun j hj => by simp [go_sem, hNb]; exact HW'.out j hj), by (repeat (first | (with_reducible exact Below.refl _ _) | (with_reducible refine below_setCell ?_ (by first | (simp; done) | (simp; omega) | omega)) | (with_reducible refine below_alloc _ ?_) | (with_reducible refine below_drewN ?_ _) | (with_reducible assumption) | (with_reducible refine below_after (by assumption) ?_)))⟩
          case measure => simp [RowKit.intOf]; omega
        · have hq := str_ne hxu
          have Hxn := Lib.hid hxu
          clear hxu
          go_wp2
          go_roundw
          case rel => exact ⟨k + 1, by go_num, by omega, HZ, Lib.hid (by rw [hnx.out, if_neg (fun h => Hxn.out h.2)]; exact HCb.out), HW', hb⟩
          case measure => simp [RowKit.intOf]; omega
      · obtain rfl : k = 0 := by omega
        go_wp2
        go_roundw
        case rel => exact ⟨1, by go_num, by omega, HZ, Lib.hid (by rw [hnx.out, if_neg (fun h => hk0 h.1)]; exact HCb.out), HW', hb⟩
        case measure => simp [RowKit.intOf]
    · have hlt2 : 5 ≤ (k : Int) := by omega
      obtain rfl : k = 5 := by omega
      obtain ⟨K, HK⟩ : ∃ K, Hid (kindR u = K) := ⟨_, Lib.hid rfl⟩
      have hKin := kindAtR_in u 5
      rw [kindAtR_5, HK.out] at d0 hKin
      have HCK : Hid (Blk wr w1.heap.size 25 #[.int .i64 K, .int .i64 0, .int .i64 0, .int .i64 0, .slice none 0 0, .slice none 0 0, .bool false]) := Lib.hid (by have := HCb.out; rwa [kindAtR_5, HK.out] at this)
      clear HCb HW' hN hN2 hN3 hlt hk
      generalize hm : n - 1 = m
      generalize hcm : c1 - 1 = c2
      have Hm : Hid (m + 1 = n) := Lib.hid (by omega)
      go_upto_region 12 with fail
      generalize hpp : (ite (c1 = 1) _ _ : Option Addr) = pp
      have Hpp : Hid (0 < m → pp = some ⟨g, o + 1, none⟩) := Lib.hid fun h => by rw [← hpp, if_neg (by omega)]
      clear hpp
      obtain ⟨qq, hqq⟩ : ∃ qq, decide (0 < K ∧ K ≠ 4 ∧ 0 < m) = qq := ⟨_, rfl⟩
      have Hqq := Lib.hid hqq
      clear hqq
      go_cut [50] (fun t50 wx => t50 = .bool qq ∧ wx = wr)
      case first =>
        by_cases hK0 : 0 < K
        rotate_left
        · obtain rfl : K = 0 := by omega
          go_wp2_with fail
          go_meet
          exact ⟨by rw [← Hqq.out]; rfl, rfl⟩
        by_cases hK4 : K = 4
        · subst hK4
          go_wp2_with fail
          go_meet
          exact ⟨by rw [← Hqq.out]; simp, rfl⟩
        have b4 : (K == 4) = false := by simpa using hK4
        have b5 : (K != 4) = true := by simpa using hK4
        by_cases hm0 : m = 0
        · subst hm0
          go_wp2_with fail
          go_meet
          exact ⟨by rw [← Hqq.out]; simp, rfl⟩
        have hmp : 0 < m := by omega
        have hmI : (0 : Int) < (m : Int) := by omega
        go_wp2_with fail
        go_meet
        exact ⟨by rw [← Hqq.out]; simp [hK0, hK4, hmp], rfl⟩
      case rest =>
      obtain ⟨rfl, hwc⟩ := hcut
      obtain rfl := hwc
      go_upto_if 50 with fail
      go_cut [8] (fun t8 wx => ∃ (a l : Nat) (pq : Option Addr) (cq : Nat) (T : Int), t8 = .slice pq l cq ∧ Hid (l + a = n) ∧ Hid (0 < l → pq = some ⟨g, o + a, none⟩) ∧ Hid (resS xs = (xs.drop a).foldl stepS { zeroR K with Txn := T }) ∧ Hid (Blk wx w1.heap.size 25 #[.int .i64 K, .int .i64 T, .int .i64 0, .int .i64 0, .slice none 0 0, .slice none 0 0, .bool false]) ∧ Hid (Blk wx w.heap.size 25 #[.int .i64 0, .int .i64 0, .int .i64 0, .int .i64 0, .slice none 0 0, .slice none 0 0, .bool false]) ∧ Below w1.heap.size w1 wx)
      case first =>
        have HP := Lib.hid (fun (h : ¬ takes K (xs.drop 1)) => resS_plain Hg0.out HK.out h)
        cases qq
        · have hq0 := of_decide_eq_false Hqq.out
          go_wp2
          go_meet
          exact ⟨1, m, pp, c2, 0, rfl, Hm, Hpp, Lib.hid (HP.out (fun h => hq0 ⟨h.1, h.2.1, by have h2 := h.2.2; rw [List.length_drop, Hn.out] at h2; have := Hm.out; omega⟩)), HCK, HZ, hb⟩
        obtain ⟨hK0, hK4, hmp⟩ := of_decide_eq_true Hqq.out
        have hmI : (0 : Int) < (m : Int) := by omega
        obtain rfl := Hpp.out hmp
        have h1n : 1 < xs.length := by have := Hn.out; have := Hm.out; omega
        obtain ⟨v, hv⟩ : ∃ v, xs[1] = v := ⟨_, rfl⟩
        have v0 : wc.cell? ⟨g, o + 1, none⟩ = some (.string v) := (hb.cell (p := ⟨g, o + 1, none⟩) hg).trans (by have := HC.out 1 h1n; rw [hv] at this; exact this)
        have Hg1 : Hid (xs.getD 1 ⟨#[]⟩ = v) := Lib.hid (by rw [List.getD_eq_getElem?_getD, List.getElem?_eq_getElem h1n, hv]; rfl)
        have hvz : v.size ≤ 400 := Hsz.out v (by rw [← hv]; exact List.getElem_mem _)
        have Hrd := Lib.hid (fun W => l1Read_any v (by omega) W)
        obtain ⟨T, hT⟩ : ∃ T, readD v.data.toList = T := ⟨_, rfl⟩
        have HP2 := Lib.hid (resS_takes Hg0.out HK.out Hg1.out hT ⟨hK0, hK4, by rw [List.length_drop]; omega⟩)
        rw [hT] at Hrd
        have f1 := HCK.out.frozen 1
        have d1 := HCK.out.cell 1 (v := .int .i64 0) rfl
        have HC5 := Lib.hid (HCK.out.set 1 (.int .i64 T))
        have HZ5 := Lib.hid (HZ.out.other (b := w1.heap.size) 1 (.int .i64 T) (by omega))
        have hm2 : m ≤ c2 := by have := Hm.out; omega
        have hmc : (m : Int) ≤ (c2 : Int) := by omega
        have hm1 : 1 ≤ m := hmp
        have hmI1 : (1 : Int) ≤ (m : Int) := by omega
        clear hv hT HP hvz h1n
        go_wp2_with fail
        refine (Hrd.out _).mono ?_
        rintro e w4 ⟨rfl, rfl⟩
        go_wp2
        all_goals
          go_meet
          refine ⟨2, m - 1, _, _, T, rfl, Lib.hid (by have := Hm.out; omega), Lib.hid fun h => ?_, HP2, HC5, HZ5, by (repeat (first | (with_reducible exact Below.refl _ _) | (with_reducible refine below_setCell ?_ (by first | (simp; done) | (simp; omega) | omega)) | (with_reducible refine below_alloc _ ?_) | (with_reducible refine below_drewN ?_ _) | (with_reducible assumption) | (with_reducible refine below_after (by assumption) ?_)))⟩
          first | rfl | (exfalso; omega)
      case rest =>
        obtain ⟨a, l, pq, cq, T, rfl, Hla, Hpq, Hrs, HCc, HZc, bc⟩ := hcut
        have Hla2 := Hla.out
        clear hb u0 zz d0 f0 HCK HZ hKin Hg0 HK Hm Hpp hcap
        obtain ⟨r0, Hr0⟩ : ∃ r0 : RecD, Hid ({ zeroR K with Txn := T } = r0) := ⟨_, Lib.hid rfl⟩
        obtain ⟨ys, hys⟩ : ∃ ys, xs.drop a = ys := ⟨_, rfl⟩
        rw [hys, Hr0.out] at Hrs
        have Hyl : Hid (ys.length = l) := Lib.hid (by rw [← hys, List.length_drop, Hn.out]; omega)
        have Hyc : Hid (∀ j (h : j < ys.length), w1.cell? ⟨g, o + a + j, none⟩ = some (.string ys[j])) := Lib.hid (by
          subst hys
          intro j h
          rw [List.length_drop] at h
          have := HC.out (a + j) (by omega)
          rw [List.getElem_drop, Nat.add_assoc]
          exact this)
        have Hyz : Hid (∀ y ∈ ys, y.size ≤ 400) := Lib.hid fun y h => Hsz.out y (by rw [← hys] at h; exact List.mem_of_mem_drop h)
        have HT0 : Hid (Blk wc w1.heap.size 25 #[.int .i64 r0.Kind, .int .i64 r0.Txn, .int .i64 r0.Time, .int .i64 r0.Lead, .slice none 0 0, .slice none 0 0, .bool r0.Yes]) := Lib.hid (by rw [← Hr0.out]; exact HCc.out)
        have H00 : Hid (r0.Reads = [] ∧ r0.Writes = []) := Lib.hid (by rw [← Hr0.out]; exact ⟨rfl, rfl⟩)
        have hlb : l ≤ 401 := by omega
        clear hys HC HCc Hsz Hr0 Hn
        go_wp2_with fail
        go_loopw [60] (fun i wr => ∃ (k : Nat) (r : RecD) (pR : Option Addr) (nR cR : Nat) (pW : Option Addr) (nW cW : Nat), i = .int .i64 (k : Int) ∧ k ≤ l ∧ Hid ((ys.take k).foldl stepS r0 = r) ∧ Hid (r.Reads.length = nR) ∧ Hid (r.Writes.length = nW) ∧ nR ≤ k ∧ nW ≤ k ∧ Hid (Blk wr w1.heap.size 25 #[.int .i64 r.Kind, .int .i64 r.Txn, .int .i64 r.Time, .int .i64 r.Lead, .slice pR nR cR, .slice pW nW cW, .bool r.Yes]) ∧ Hid (Blk wr w.heap.size 25 #[.int .i64 0, .int .i64 0, .int .i64 0, .int .i64 0, .slice none 0 0, .slice none 0 0, .bool false]) ∧ Hid (RowsOf wr (w1.heap.size + 1) (.slice pR nR cR) (.slice pW nW cW) r.Reads r.Writes) ∧ Below w1.heap.size w1 wr) (fun i _ => l - (RowKit.intOf i).toNat)
        case atStart => exact ⟨0, r0, none, 0, 0, none, 0, 0, rfl, Nat.zero_le _, Lib.hid rfl, Lib.hid (by rw [H00.out.1]; rfl), Lib.hid (by rw [H00.out.2]; rfl), Nat.le_refl _, Nat.le_refl _, HT0, HZc, Lib.hid (by rw [H00.out.1, H00.out.2]; exact rows_start _ _), bc⟩
        case round =>
          obtain ⟨k, ⟨rK, rT, rTi, rL, rR, rW, rY⟩, pR, nR, cR, pW, nW, cW, rfl, hk, Hr, HnR, HnW, hlR, hlW, HCb, HZb, HR, hb⟩ := hrel
          clear HT0 H00 HZc bc
          replace HnR : Hid (rR.length = nR) := HnR
          replace HnW : Hid (rW.length = nW) := HnW
          replace HR : Hid (RowsOf wr (w1.heap.size + 1) (.slice pR nR cR) (.slice pW nW cW) rR rW) := HR
          replace HCb : Hid (Blk wr w1.heap.size 25 #[.int .i64 rK, .int .i64 rT, .int .i64 rTi, .int .i64 rL, .slice pR nR cR, .slice pW nW cW, .bool rY]) := HCb
          have zz : w1.heap.size < wr.heap.size := HCb.out.lt
          have d0 := HCb.out.cell 0 (v := .int .i64 rK) rfl
          have d1 := HCb.out.cell 1 (v := .int .i64 rT) rfl
          have d2 := HCb.out.cell 2 (v := .int .i64 rTi) rfl
          have d3 := HCb.out.cell 3 (v := .int .i64 rL) rfl
          have d4 := HCb.out.cell 4 (v := .slice pR nR cR) rfl
          have d5 := HCb.out.cell 5 (v := .slice pW nW cW) rfl
          have d6 := HCb.out.cell 6 (v := .bool rY) rfl
          have f0 := HCb.out.frozen 0
          have f1 := HCb.out.frozen 1
          have f2 := HCb.out.frozen 2
          have f3 := HCb.out.frozen 3
          have f4 := HCb.out.frozen 4
          have f5 := HCb.out.frozen 5
          have f6 := HCb.out.frozen 6

          by_cases hlt : k < l
          · have hltI : (k : Int) < (l : Int) := by omega
            obtain rfl := Hpq.out (by omega)
            have hky : k < ys.length := by have := Hyl.out; omega
            have hcell : wr.cell? ⟨g, o + a + k, none⟩ = some (.string ys[k]) := (hb.cell (p := ⟨g, o + a + k, none⟩) hg).trans (Hyc.out k hky)
            have Hnx : Hid ((ys.take (k + 1)).foldl stepS r0 = stepS ⟨rK, rT, rTi, rL, rR, rW, rY⟩ ys[k]) := Lib.hid (by rw [fold_take _ _ _ hky, Hr.out])
            have Hlen := Lib.hid (stepS_len ⟨rK, rT, rTi, rL, rR, rW, rY⟩ ys[k])
            have hxs : ys[k].size ≤ 400 := Hyz.out _ (List.getElem_mem _)
            generalize ys[k] = x at *
            have hw := l4Word_any rK rT rTi rL rR rW rY x hxs (by rw [HnR.out]; omega) (by rw [HnW.out]; omega) wr (w1.heap.size + 1) (by omega) pR pW cR cW (by rw [HnR.out, HnW.out]; exact HR.out)
            rw [HnR.out, HnW.out] at hw
            obtain ⟨r2, hr2⟩ : ∃ r2, stepS ⟨rK, rT, rTi, rL, rR, rW, rY⟩ x = r2 := ⟨_, rfl⟩
            rw [hr2] at hw Hnx Hlen
            have Hw := Lib.hid hw
            have Hl2 : r2.Reads.length ≤ k + 1 ∧ r2.Writes.length ≤ k + 1 := by have h1 := Hlen.out; have h2 : rR.length = nR := HnR.out; have h3 : rW.length = nW := HnW.out; dsimp only at h1; omega
            have Hl3 := Lib.hid Hl2
            clear hw hr2 hxs hky Hr Hlen Hl2 HR HnR HnW
            go_wp2_with fail
            refine Hw.out.mono ?_
            rintro e w4 ⟨qR, dR, qW, dW, rfl, hrows, hb4⟩
            have HC4 : Hid (Blk w4 w1.heap.size 25 #[.int .i64 rK, .int .i64 rT, .int .i64 rTi, .int .i64 rL, .slice pR nR cR, .slice pW nW cW, .bool rY]) := Lib.hid (HCb.out.belowB hb4 (Nat.lt_succ_self _))
            have HZ4 : Hid (Blk w4 w.heap.size 25 #[.int .i64 0, .int .i64 0, .int .i64 0, .int .i64 0, .slice none 0 0, .slice none 0 0, .bool false]) := Lib.hid (HZb.out.belowB hb4 (by omega))
            have HR4 := Lib.hid hrows
            have b4 : Below w1.heap.size w1 w4 := hb.trans (hb4.mono (Nat.le_succ _))
            have zz4 : w1.heap.size < w4.heap.size := HC4.out.lt
            clear hrows hb4 HCb HZb Hw hcell d0 f0 d1 f1 d2 f2 d3 f3 d4 f4 d5 f5 d6 f6
            have d0 := HC4.out.cell 0 (v := .int .i64 rK) rfl
            have d1 := HC4.out.cell 1 (v := .int .i64 rT) rfl
            have d2 := HC4.out.cell 2 (v := .int .i64 rTi) rfl
            have d3 := HC4.out.cell 3 (v := .int .i64 rL) rfl
            have d4 := HC4.out.cell 4 (v := .slice pR nR cR) rfl
            have d5 := HC4.out.cell 5 (v := .slice pW nW cW) rfl
            have d6 := HC4.out.cell 6 (v := .bool rY) rfl
            have f0 := HC4.out.frozen 0
            have f1 := HC4.out.frozen 1
            have f2 := HC4.out.frozen 2
            have f3 := HC4.out.frozen 3
            have f4 := HC4.out.frozen 4
            have f5 := HC4.out.frozen 5
            have f6 := HC4.out.frozen 6
            go_wp2
            go_roundw
            case rel => (repeat apply Exists.intro); exact ⟨⟨k + 1, r2, qR, _, dR, qW, _, dW, by go_num, by omega, Hnx, Lib.hid rfl, Lib.hid rfl, Hl3.out.1, Hl3.out.2, Lib.hid (by have := (((((((HC4.out.set 0 (.int .i64 r2.Kind)).set 1 (.int .i64 r2.Txn)).set 2 (.int .i64 r2.Time)).set 3 (.int .i64 r2.Lead)).set 4 (.slice qR r2.Reads.length dR)).set 5 (.slice qW r2.Writes.length dW)).set 6 (.bool r2.Yes)); simpa using this), Lib.hid (((((((HZ4.out.other (b := w1.heap.size) 0 (.int .i64 r2.Kind) (by omega)).other (b := w1.heap.size) 1 (.int .i64 r2.Txn) (by omega)).other (b := w1.heap.size) 2 (.int .i64 r2.Time) (by omega)).other (b := w1.heap.size) 3 (.int .i64 r2.Lead) (by omega)).other (b := w1.heap.size) 4 (.slice qR r2.Reads.length dR) (by omega)).other (b := w1.heap.size) 5 (.slice qW r2.Writes.length dW) (by omega)).other (b := w1.heap.size) 6 (.bool r2.Yes) (by omega)), Lib.hid (rows_twain HR4.out HC4.out HC4.out (by refine Twain.set ?_ (Or.inl rfl); refine Twain.set ?_ (Or.inl rfl); refine Twain.set ?_ (Or.inl rfl); refine Twain.set ?_ (Or.inl rfl); refine Twain.set ?_ (Or.inl rfl); refine Twain.set ?_ (Or.inl rfl); refine Twain.set ?_ (Or.inl rfl); exact Twain.refl _ _ _)), (((((((b4.setCell (Nat.le_refl _) _).setCell (Nat.le_refl _) _).setCell (Nat.le_refl _) _).setCell (Nat.le_refl _) _).setCell (Nat.le_refl _) _).setCell (Nat.le_refl _) _).setCell (Nat.le_refl _) _)⟩, rfl⟩
            case measure => simp [RowKit.intOf]; omega
          · have hltI : (l : Int) ≤ (k : Int) := by omega
            obtain rfl : k = l := by omega
            have Hre : Hid (resS (wordsT s) = ⟨rK, rT, rTi, rL, rR, rW, rY⟩) := Lib.hid (by rw [← Hx.out, Hrs.out, ← Hr.out, List.take_of_length_le (by rw [Hyl.out]; exact Nat.le_refl _)])
            have bw : Below w.heap.size w wr := b1.trans (hb.mono b1.size)
            have hg := fun (W : World) (b : Below wr.heap.size wr W) => l4Good_any ⟨rK, rT, rTi, rL, rR, rW, rY⟩ (by rw [HnR.out]; omega) (by rw [HnW.out]; omega) W (.slice pR rR.length cR) (.slice pW rW.length cW) (by have := (HR.out.below b).rd.1; rw [HnR.out]; exact this) (by have := (HR.out.below b).rd.2; rw [HnW.out]; exact this)
            have ht := fun (hq : goodRB ⟨rK, rT, rTi, rL, rR, rW, rY⟩ = true) (W : World) (b : Below wr.heap.size wr W) => l4Text_any hq (Nat.le_trans (goodRB_cost hq) (by decide)) W pR pW cR cW (by have := (HR.out.below b).rd.1; rw [HnR.out]; exact this) (by have := (HR.out.below b).rd.2; rw [HnW.out]; exact this)
            have HQ2 := HQ.out
            rw [Hre.out] at HQ2
            have HQ3 := Lib.hid HQ2
            have Ht0 : Hid (recT rK rT.toNat rTi.toNat rL.toNat rR rW = recTx ⟨rK, rT, rTi, rL, rR, rW, rY⟩) := Lib.hid rfl
            dsimp only at hg ht
            rw [HnR.out, HnW.out] at hg
            rw [HnR.out, HnW.out, Ht0.out] at ht
            generalize recTx ⟨rK, rT, rTi, rL, rR, rW, rY⟩ = tx at *
            generalize goodRB ⟨rK, rT, rTi, rL, rR, rW, rY⟩ = q at *
            have Hg := Lib.hid hg
            have Ht := Lib.hid ht
            clear hg ht HQ2 HQ Hre Ht0 Hrs Hr Hyc Hyz
            cases q
            · have HF : Hid (recRT s = (zeroR 0, false)) := Lib.hid (by rw [HQ3.out]; exact if_neg (fun h => by cases h.1))
              clear HQ3 Ht
              go_wp2_with fail
              refine (Hg.out _ (Below.refl _ _)).mono ?_
              rintro e w2 ⟨rfl, k2⟩
              have HC5 := Lib.hid (HCb.out.below k2)
              have HZ5 := Lib.hid (HZb.out.below k2)
              have HR5 := Lib.hid (HR.out.below k2)
              have b5 : Below w.heap.size w w2 := below_after k2 bw
              clear k2 HCb HZb HR d0 f0 d1 f1 d2 f2 d3 f3 d4 f4 d5 f5 d6 f6
              have d0 := HC5.out.cell 0 (v := .int .i64 rK) rfl
              have d1 := HC5.out.cell 1 (v := .int .i64 rT) rfl
              have d2 := HC5.out.cell 2 (v := .int .i64 rTi) rfl
              have d3 := HC5.out.cell 3 (v := .int .i64 rL) rfl
              have d4 := HC5.out.cell 4 (v := .slice pR nR cR) rfl
              have d5 := HC5.out.cell 5 (v := .slice pW nW cW) rfl
              have d6 := HC5.out.cell 6 (v := .bool rY) rfl
              have f0 := HC5.out.frozen 0
              have f1 := HC5.out.frozen 1
              have f2 := HC5.out.frozen 2
              have f3 := HC5.out.frozen 3
              have f4 := HC5.out.frozen 4
              have f5 := HC5.out.frozen 5
              have f6 := HC5.out.frozen 6
              have g0 := HZ5.out.frozen 0
              have g1 := HZ5.out.frozen 1
              have g2 := HZ5.out.frozen 2
              have g3 := HZ5.out.frozen 3
              have g4 := HZ5.out.frozen 4
              have g5 := HZ5.out.frozen 5
              have g6 := HZ5.out.frozen 6
              have y0 := HZ5.out.cell 0 (v := .int .i64 0) rfl
              have y1 := HZ5.out.cell 1 (v := .int .i64 0) rfl
              have y2 := HZ5.out.cell 2 (v := .int .i64 0) rfl
              have y3 := HZ5.out.cell 3 (v := .int .i64 0) rfl
              have y4 := HZ5.out.cell 4 (v := .slice none 0 0) rfl
              have y5 := HZ5.out.cell 5 (v := .slice none 0 0) rfl
              have y6 := HZ5.out.cell 6 (v := .bool false) rfl
              go_wp2
              clear d0 d1 d2 d3 d4 d5 d6 f0 f1 f2 f3 f4 f5 f6 g0 g1 g2 g3 g4 g5 g6 y0 y1 y2 y3 y4 y5 y6
              generalize hw9 : World.setCell _ _ _ = w9
              have BZ9 : Blk w9 w.heap.size 25 #[.int .i64 0, .int .i64 0, .int .i64 0, .int .i64 0, .slice none 0 0, .slice none 0 0, .bool false] := by rw [← hw9]; have := (((((((HZ5.out.set 0 (.int .i64 0)).set 1 (.int .i64 0)).set 2 (.int .i64 0)).set 3 (.int .i64 0)).set 4 (.slice none 0 0)).set 5 (.slice none 0 0)).set 6 (.bool false)); simpa using this
              have b9 : Below w.heap.size w w9 := by rw [← hw9]; exact (((((((b5.setCell (Nat.le_refl _) _).setCell (Nat.le_refl _) _).setCell (Nat.le_refl _) _).setCell (Nat.le_refl _) _).setCell (Nat.le_refl _) _).setCell (Nat.le_refl _) _).setCell (Nat.le_refl _) _)
              clear hw9
              have z0 := BZ9.cell 0 (v := .int .i64 0) rfl
              have z1 := BZ9.cell 1 (v := .int .i64 0) rfl
              have z2 := BZ9.cell 2 (v := .int .i64 0) rfl
              have z3 := BZ9.cell 3 (v := .int .i64 0) rfl
              have z4 := BZ9.cell 4 (v := .slice none 0 0) rfl
              have z5 := BZ9.cell 5 (v := .slice none 0 0) rfl
              have z6 := BZ9.cell 6 (v := .bool false) rfl
              have g0 := BZ9.frozen 0
              have g1 := BZ9.frozen 1
              have g2 := BZ9.frozen 2
              have g3 := BZ9.frozen 3
              have g4 := BZ9.frozen 4
              have g5 := BZ9.frozen 5
              have g6 := BZ9.frozen 6
              refine bodyPost_ret (v := .tuple #[.agg #[.int .i64 0, .int .i64 0, .int .i64 0, .int .i64 0, .slice none 0 0, .slice none 0 0, .bool false], .bool false]) (by simp [results, Tryz.results4, go_sem, z0, g0, z1, g1, z2, g2, z3, g3, z4, g4, z5, g5, z6, g6]) rfl ?_
              exact tx_zero HF.out b9
            · go_wp2_with fail
              refine (Hg.out _ (Below.refl _ _)).mono ?_
              rintro e w2 ⟨rfl, k2⟩
              have HC5 := Lib.hid (HCb.out.below k2)
              have HZ5 := Lib.hid (HZb.out.below k2)
              have HR5 := Lib.hid (HR.out.below k2)
              have b5 : Below w.heap.size w w2 := below_after k2 bw
              clear HCb HZb HR d0 f0 d1 f1 d2 f2 d3 f3 d4 f4 d5 f5 d6 f6
              have d0 := HC5.out.cell 0 (v := .int .i64 rK) rfl
              have d1 := HC5.out.cell 1 (v := .int .i64 rT) rfl
              have d2 := HC5.out.cell 2 (v := .int .i64 rTi) rfl
              have d3 := HC5.out.cell 3 (v := .int .i64 rL) rfl
              have d4 := HC5.out.cell 4 (v := .slice pR nR cR) rfl
              have d5 := HC5.out.cell 5 (v := .slice pW nW cW) rfl
              have d6 := HC5.out.cell 6 (v := .bool rY) rfl
              have f0 := HC5.out.frozen 0
              have f1 := HC5.out.frozen 1
              have f2 := HC5.out.frozen 2
              have f3 := HC5.out.frozen 3
              have f4 := HC5.out.frozen 4
              have f5 := HC5.out.frozen 5
              have f6 := HC5.out.frozen 6
              have g0 := HZ5.out.frozen 0
              have g1 := HZ5.out.frozen 1
              have g2 := HZ5.out.frozen 2
              have g3 := HZ5.out.frozen 3
              have g4 := HZ5.out.frozen 4
              have g5 := HZ5.out.frozen 5
              have g6 := HZ5.out.frozen 6
              have y0 := HZ5.out.cell 0 (v := .int .i64 0) rfl
              have y1 := HZ5.out.cell 1 (v := .int .i64 0) rfl
              have y2 := HZ5.out.cell 2 (v := .int .i64 0) rfl
              have y3 := HZ5.out.cell 3 (v := .int .i64 0) rfl
              have y4 := HZ5.out.cell 4 (v := .slice none 0 0) rfl
              have y5 := HZ5.out.cell 5 (v := .slice none 0 0) rfl
              have y6 := HZ5.out.cell 6 (v := .bool false) rfl
              have Ht2 := Lib.hid (Ht.out (by first | exact rfl | exact trivial) _ k2)
              clear k2
              by_cases hq : tx = s
              · have HF : Hid (recRT s = (⟨rK, rT, rTi, rL, rR, rW, rY⟩, true)) := Lib.hid (by rw [HQ3.out]; exact if_pos ⟨(by first | exact rfl | exact trivial), hq⟩)
                subst hq
                clear HQ3 Ht Hg
                go_wp2_with fail
                refine Ht2.out.mono ?_
                rintro e w3 ⟨rfl, k3⟩
                clear d0 f0 g0 y0 d1 f1 g1 y1 d2 f2 g2 y2 d3 f3 g3 y3 d4 f4 g4 y4 d5 f5 g5 y5 d6 f6 g6 y6
                have HC5 := Lib.hid (HC5.out.below k3)
                have HZ5 := Lib.hid (HZ5.out.below k3)
                have HR5 := Lib.hid (HR5.out.below k3)
                have b5 : Below w.heap.size w w3 := below_after k3 b5
                clear k3
                have d0 := HC5.out.cell 0 (v := .int .i64 rK) rfl
                have d1 := HC5.out.cell 1 (v := .int .i64 rT) rfl
                have d2 := HC5.out.cell 2 (v := .int .i64 rTi) rfl
                have d3 := HC5.out.cell 3 (v := .int .i64 rL) rfl
                have d4 := HC5.out.cell 4 (v := .slice pR nR cR) rfl
                have d5 := HC5.out.cell 5 (v := .slice pW nW cW) rfl
                have d6 := HC5.out.cell 6 (v := .bool rY) rfl
                have f0 := HC5.out.frozen 0
                have f1 := HC5.out.frozen 1
                have f2 := HC5.out.frozen 2
                have f3 := HC5.out.frozen 3
                have f4 := HC5.out.frozen 4
                have f5 := HC5.out.frozen 5
                have f6 := HC5.out.frozen 6
                have g0 := HZ5.out.frozen 0
                have g1 := HZ5.out.frozen 1
                have g2 := HZ5.out.frozen 2
                have g3 := HZ5.out.frozen 3
                have g4 := HZ5.out.frozen 4
                have g5 := HZ5.out.frozen 5
                have g6 := HZ5.out.frozen 6
                have y0 := HZ5.out.cell 0 (v := .int .i64 0) rfl
                have y1 := HZ5.out.cell 1 (v := .int .i64 0) rfl
                have y2 := HZ5.out.cell 2 (v := .int .i64 0) rfl
                have y3 := HZ5.out.cell 3 (v := .int .i64 0) rfl
                have y4 := HZ5.out.cell 4 (v := .slice none 0 0) rfl
                have y5 := HZ5.out.cell 5 (v := .slice none 0 0) rfl
                have y6 := HZ5.out.cell 6 (v := .bool false) rfl
                go_wp2
                clear d0 d1 d2 d3 d4 d5 d6 f0 f1 f2 f3 f4 f5 f6 g0 g1 g2 g3 g4 g5 g6 y0 y1 y2 y3 y4 y5 y6
                generalize hw9 : World.setCell _ _ _ = w9
                have BZ9 : Blk w9 w.heap.size 25 #[.int .i64 rK, .int .i64 rT, .int .i64 rTi, .int .i64 rL, .slice pR nR cR, .slice pW nW cW, .bool rY] := by rw [← hw9]; have := (((((((HZ5.out.set 0 (.int .i64 rK)).set 1 (.int .i64 rT)).set 2 (.int .i64 rTi)).set 3 (.int .i64 rL)).set 4 (.slice pR nR cR)).set 5 (.slice pW nW cW)).set 6 (.bool rY)); simpa using this
                have b9 : Below w.heap.size w w9 := by rw [← hw9]; exact (((((((b5.setCell (Nat.le_refl _) _).setCell (Nat.le_refl _) _).setCell (Nat.le_refl _) _).setCell (Nat.le_refl _) _).setCell (Nat.le_refl _) _).setCell (Nat.le_refl _) _).setCell (Nat.le_refl _) _)
                have HR9 := rows_twain HR5.out HC5.out HZ5.out (w' := w9) (by rw [← hw9]; exact (by refine Twain.set ?_ (Or.inr rfl); refine Twain.set ?_ (Or.inr rfl); refine Twain.set ?_ (Or.inr rfl); refine Twain.set ?_ (Or.inr rfl); refine Twain.set ?_ (Or.inr rfl); refine Twain.set ?_ (Or.inr rfl); refine Twain.set ?_ (Or.inr rfl); exact Twain.refl _ _ _))
                clear hw9
                have z0 := BZ9.cell 0 (v := .int .i64 rK) rfl
                have z1 := BZ9.cell 1 (v := .int .i64 rT) rfl
                have z2 := BZ9.cell 2 (v := .int .i64 rTi) rfl
                have z3 := BZ9.cell 3 (v := .int .i64 rL) rfl
                have z4 := BZ9.cell 4 (v := .slice pR nR cR) rfl
                have z5 := BZ9.cell 5 (v := .slice pW nW cW) rfl
                have z6 := BZ9.cell 6 (v := .bool rY) rfl
                have g0 := BZ9.frozen 0
                have g1 := BZ9.frozen 1
                have g2 := BZ9.frozen 2
                have g3 := BZ9.frozen 3
                have g4 := BZ9.frozen 4
                have g5 := BZ9.frozen 5
                have g6 := BZ9.frozen 6
                refine bodyPost_ret (v := .tuple #[.agg #[.int .i64 rK, .int .i64 rT, .int .i64 rTi, .int .i64 rL, .slice pR nR cR, .slice pW nW cW, .bool rY], .bool true]) (by simp [results, Tryz.results4, go_sem, z0, g0, z1, g1, z2, g2, z3, g3, z4, g4, z5, g5, z6, g6]) rfl ?_
                exact tx_yes HF.out HnR.out HnW.out HR9 (by omega) b9
              · have HF : Hid (recRT s = (zeroR 0, false)) := Lib.hid (by rw [HQ3.out]; exact if_neg (fun h => hq h.2))
                have hqs := str_ne hq
                clear HQ3 Ht Hg hq
                go_wp2_with fail
                refine Ht2.out.mono ?_
                rintro e w3 ⟨rfl, k3⟩
                clear d0 f0 g0 y0 d1 f1 g1 y1 d2 f2 g2 y2 d3 f3 g3 y3 d4 f4 g4 y4 d5 f5 g5 y5 d6 f6 g6 y6
                have HC5 := Lib.hid (HC5.out.below k3)
                have HZ5 := Lib.hid (HZ5.out.below k3)
                have HR5 := Lib.hid (HR5.out.below k3)
                have b5 : Below w.heap.size w w3 := below_after k3 b5
                clear k3
                have d0 := HC5.out.cell 0 (v := .int .i64 rK) rfl
                have d1 := HC5.out.cell 1 (v := .int .i64 rT) rfl
                have d2 := HC5.out.cell 2 (v := .int .i64 rTi) rfl
                have d3 := HC5.out.cell 3 (v := .int .i64 rL) rfl
                have d4 := HC5.out.cell 4 (v := .slice pR nR cR) rfl
                have d5 := HC5.out.cell 5 (v := .slice pW nW cW) rfl
                have d6 := HC5.out.cell 6 (v := .bool rY) rfl
                have f0 := HC5.out.frozen 0
                have f1 := HC5.out.frozen 1
                have f2 := HC5.out.frozen 2
                have f3 := HC5.out.frozen 3
                have f4 := HC5.out.frozen 4
                have f5 := HC5.out.frozen 5
                have f6 := HC5.out.frozen 6
                have g0 := HZ5.out.frozen 0
                have g1 := HZ5.out.frozen 1
                have g2 := HZ5.out.frozen 2
                have g3 := HZ5.out.frozen 3
                have g4 := HZ5.out.frozen 4
                have g5 := HZ5.out.frozen 5
                have g6 := HZ5.out.frozen 6
                have y0 := HZ5.out.cell 0 (v := .int .i64 0) rfl
                have y1 := HZ5.out.cell 1 (v := .int .i64 0) rfl
                have y2 := HZ5.out.cell 2 (v := .int .i64 0) rfl
                have y3 := HZ5.out.cell 3 (v := .int .i64 0) rfl
                have y4 := HZ5.out.cell 4 (v := .slice none 0 0) rfl
                have y5 := HZ5.out.cell 5 (v := .slice none 0 0) rfl
                have y6 := HZ5.out.cell 6 (v := .bool false) rfl
                go_wp2
                clear d0 d1 d2 d3 d4 d5 d6 f0 f1 f2 f3 f4 f5 f6 g0 g1 g2 g3 g4 g5 g6 y0 y1 y2 y3 y4 y5 y6
                generalize hw9 : World.setCell _ _ _ = w9
                have BZ9 : Blk w9 w.heap.size 25 #[.int .i64 0, .int .i64 0, .int .i64 0, .int .i64 0, .slice none 0 0, .slice none 0 0, .bool false] := by rw [← hw9]; have := (((((((HZ5.out.set 0 (.int .i64 0)).set 1 (.int .i64 0)).set 2 (.int .i64 0)).set 3 (.int .i64 0)).set 4 (.slice none 0 0)).set 5 (.slice none 0 0)).set 6 (.bool false)); simpa using this
                have b9 : Below w.heap.size w w9 := by rw [← hw9]; exact (((((((b5.setCell (Nat.le_refl _) _).setCell (Nat.le_refl _) _).setCell (Nat.le_refl _) _).setCell (Nat.le_refl _) _).setCell (Nat.le_refl _) _).setCell (Nat.le_refl _) _).setCell (Nat.le_refl _) _)
                clear hw9
                have z0 := BZ9.cell 0 (v := .int .i64 0) rfl
                have z1 := BZ9.cell 1 (v := .int .i64 0) rfl
                have z2 := BZ9.cell 2 (v := .int .i64 0) rfl
                have z3 := BZ9.cell 3 (v := .int .i64 0) rfl
                have z4 := BZ9.cell 4 (v := .slice none 0 0) rfl
                have z5 := BZ9.cell 5 (v := .slice none 0 0) rfl
                have z6 := BZ9.cell 6 (v := .bool false) rfl
                have g0 := BZ9.frozen 0
                have g1 := BZ9.frozen 1
                have g2 := BZ9.frozen 2
                have g3 := BZ9.frozen 3
                have g4 := BZ9.frozen 4
                have g5 := BZ9.frozen 5
                have g6 := BZ9.frozen 6
                refine bodyPost_ret (v := .tuple #[.agg #[.int .i64 0, .int .i64 0, .int .i64 0, .int .i64 0, .slice none 0 0, .slice none 0 0, .bool false], .bool false]) (by simp [results, Tryz.results4, go_sem, z0, g0, z1, g1, z2, g2, z3, g3, z4, g4, z5, g5, z6, g6]) rfl ?_
                exact tx_zero HF.out b9


end Go.Proofs.YtpiheobpobclgaaGreatDoor
