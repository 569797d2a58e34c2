/- impl.putRows, impl.PutRows. -/
import Derived.Test.YtkcidneefdaaiaaPutWR
namespace Go.Proofs.Ytkcidneefdaaiaa
open Go.RowKit

theorem putAll_take {l ws : List WriteD} {k : Nat} (h : k < ws.length) : putAll l (ws.take (k + 1)) = putW ws[k] (putAll l (ws.take k)) := by
  rw [List.take_succ_eq_append_getElem h, putAll_snoc]

def RowsPost (q : Bool) (r : List WriteD) (w : World) (e : Ending) (w' : World) : Prop := ∃ v', e = .returned (.tuple #[v', .bool q]) ∧ Own Cod.write w' w.heap.size v' (pickL q r) ∧ Below w.heap.size w w'
theorem rows_no {r : List WriteD} {w w' : World} (b : Below w.heap.size w w') : RowsPost false r w (.returned (.tuple #[.slice none 0 0, .bool false])) w' := ⟨.slice none 0 0, rfl, own_nil _ _ _, b⟩
theorem rows_yes {r : List WriteD} {w w' : World} {v : Value} (o : Own Cod.write w' w.heap.size v r) (b : Below w.heap.size w w') : RowsPost true r w (.returned (.tuple #[v, .bool true])) w' := ⟨v, rfl, o, b⟩

set_option maxRecDepth 100000 in
set_option maxHeartbeats 6400000 in
/-- impl.putRows -/
theorem putRows_any (v0 v1 : Value) (l ws : List WriteD) (hs : RiseW l) (hl : l.length ≤ 1000) (hw : ws.length ≤ 1000) (w : World) (h0 : Rd Cod.write w v0 l) (h1 : Rd Cod.write w v1 ws) :
    Calls Try.prog 26 #[v0, v1] w (RowsPost (decide ((rowsL l ws).length ≤ 24)) (rowsL l ws) w) := by
  have Hc := Lib.hid (fun (W : World) (k : Below w.heap.size w W) => cloneWrite_p v0 l (by omega) W (h0.below k))
  obtain ⟨p, c, rfl, _, _, r⟩ := h1.form
  have R := Lib.hid r
  have Hs := Lib.hid hs
  obtain ⟨n, hn⟩ : ∃ n, ws.length = n := ⟨_, rfl⟩
  have Hn := Lib.hid hn
  have Hl := Lib.hid hl
  rw [hn] at hw ⊢
  have hnI : (n : Int) ≤ 1000 := by omega
  clear h0 h1 r hs hn hl
  go_enter Try.func26, Try.ntmps26
  go_wp2_with fail
  refine (Hc.out _ (Below.refl _ _)).mono ?_
  rintro e w1 ⟨v2, cells, rfl, hP, k1⟩
  have HP := Lib.hid hP
  clear hP Hc
  go_wp2
  go_loopw [6, 13] (fun a i wr => ∃ (k : Nat) (cs : List Value) (va : Value), va = a ∧ i = .int .i64 (k : Int) ∧ k ≤ n ∧ Hid (PartC Cod.write wr w.heap.size 45 va (putAll l (ws.take k)).length (putAll l (ws.take k)) cs) ∧ Below w.heap.size w wr) (fun _ i _ => n - (intOf i).toNat)
  case atStart => exact ⟨0, cells, _, rfl, rfl, Nat.zero_le _, HP, k1⟩
  case round =>
    obtain ⟨k, cs, va, rfl, rfl, hk, Hp, hb⟩ := hrel
    clear HP k1
    have Hlen : Hid ((putAll l (ws.take k)).length ≤ 2000) := Lib.hid (by have h1 := putAll_length (ws.take k) l; rw [List.length_take] at h1; have := Hl.out; omega)
    have Hr := Lib.hid (putAll_rise (ws.take k) Hs.out)
    by_cases hlt : k < n
    · have hltI : (k : Int) < (n : Int) := by omega
      have hkl : k < ws.length := by have := Hn.out; omega
      obtain ⟨g, o, rfl, hg, hc⟩ := R.out (by have := Hn.out; omega)
      have at0 := (hc k hkl).below hg hb
      have Ht := Lib.hid (putAll_take (l := l) hkl)
      obtain ⟨x, es⟩ : ∃ x, ws[k] = x := ⟨_, rfl⟩
      rw [es] at at0 Ht
      clear hc es hkl
      obtain ⟨d0, d1, d2, z0, z1⟩ := at_write at0
      rw [show o + k * Cod.write.size = o + k * 3 from rfl] at *
      clear at0
      generalize putAll l (ws.take k) = L at *
      have Hput := Lib.hid (fun (W : World) (kb : Below wr.heap.size wr W) => putWrite_any va L x cs w.heap.size Hr.out (by have := Hlen.out; omega) z0 z1 W (Nat.le_trans hb.size kb.size) (Hp.out.below kb))
      clear Hp Hr Hlen
      go_wp2_with fail
      refine (Hput.out _ (by (repeat (first | (with_reducible exact Below.refl _ _) | (with_reducible refine below_setCell ?_ (by first | (simp; done) | (simp; omega) | omega)) | (with_reducible refine below_alloc _ ?_) | (with_reducible refine below_drewN ?_ _) | (with_reducible assumption) | (with_reducible refine below_after (by assumption) ?_))))).mono ?_
      rintro e w3 ⟨v', cs', rfl, hP3, k3⟩
      have HP3 : Hid (PartC Cod.write w3 w.heap.size 45 v' (putAll l (ws.take (k + 1))).length (putAll l (ws.take (k + 1))) cs') := Lib.hid (by rw [Ht.out]; exact hP3)
      have hb3 : Below w.heap.size w w3 := (show Below w.heap.size w _ from by (repeat (first | (with_reducible exact Below.refl _ _) | (with_reducible refine below_setCell ?_ (by first | (simp; done) | (simp; omega) | omega)) | (with_reducible refine below_alloc _ ?_) | (with_reducible refine below_drewN ?_ _) | (with_reducible assumption) | (with_reducible refine below_after (by assumption) ?_)))).trans k3
      clear hP3 k3 Hput
      go_wp2
      go_roundw
      case rel => exact ⟨k + 1, cs', _, rfl, by go_num, by omega, HP3, hb3⟩
      case measure => simp [intOf]; omega
    · have hltI : (n : Int) ≤ (k : Int) := by omega
      obtain rfl : k = n := by omega
      have hall : ws.take k = ws := List.take_of_length_le (by have := Hn.out; omega)
      rw [hall] at Hp Hr Hlen
      have Hd := Lib.hid (deleteW_any va (putAll l ws) cs w.heap.size (by have := Hlen.out; omega) wr hb.size Hp.out)
      have hdef : (putAll l ws).filter notGone = rowsL l ws := rfl
      have hfl : (rowsL l ws).length ≤ 2000 := Nat.le_trans (List.length_filter_le _ _) Hlen.out
      clear Hp Hr Hlen hall
      go_wp2_with fail
      refine Hd.out.mono ?_
      rintro e w3 ⟨v', cs', rfl, hP3, k3⟩
      rw [hdef] at hP3
      have bw : Below w.heap.size w w3 := hb.trans k3
      have hO := hP3.own rfl
      obtain ⟨p3, c3, rfl⟩ := hP3.form
      have HO := Lib.hid hO
      clear hP3 hO k3 Hd hdef
      generalize rowsL l ws = r at *
      obtain ⟨m, hm⟩ : ∃ m, r.length = m := ⟨_, rfl⟩
      have Hm := Lib.hid hm
      rw [hm] at HO hfl ⊢
      clear hm
      by_cases h24 : m ≤ 24
      · have h24I : (m : Int) ≤ 24 := by omega
        have HF : Hid (RowsPost (decide (r.length ≤ 24)) r w (.returned (.tuple #[.slice p3 m c3, .bool true])) w3) := Lib.hid (by rw [Hm.out, decide_eq_true h24]; exact rows_yes HO.out bw)
        clear h24
        go_wp2
        go_ret2
        exact HF.out
      · have h24I : (24 : Int) < (m : Int) := by omega
        have HF : Hid (RowsPost (decide (r.length ≤ 24)) r w (.returned (.tuple #[.slice none 0 0, .bool false])) w3) := Lib.hid (by rw [Hm.out, decide_eq_false h24]; exact rows_no bw)
        clear h24
        go_wp2
        go_ret2
        exact HF.out

/-- Whether PutRows has an answer. -/
noncomputable def rowsQ (l ws : List WriteD) : Bool := (rowsB l && goodWB ws) && decide ((rowsL l ws).length ≤ 24)

set_option maxRecDepth 100000 in
/-- impl.PutRows -/
theorem expPutRows_any (v0 v1 : Value) (l ws : List WriteD) (hl : l.length ≤ 1048576) (hw : ws.length ≤ 1048576) (w : World) (h0 : Rd Cod.write w v0 l) (h1 : Rd Cod.write w v1 ws) :
    Calls Try.prog 8 #[v0, v1] w (RowsPost (rowsQ l ws) (rowsL l ws) w) := by
  have Ha := Lib.hid (isRows_any v0 l hl w h0)
  have Hb := Lib.hid (fun (W : World) (k : Below w.heap.size w W) => goodWrites_any v1 ws hw W (h1.below k))
  have Hc := Lib.hid (fun (q1 : rowsB l = true) (q2 : goodWB ws = true) (W : World) (k : Below w.heap.size w W) => putRows_any v0 v1 l ws
    (by unfold rowsB at q1; simp only [Bool.and_eq_true] at q1; exact goodWB_rise q1.1) (by unfold rowsB at q1; simp only [Bool.and_eq_true] at q1; have := (goodWB_at q1.1).1; omega) (by have := (goodWB_at q2).1; omega) W (h0.below k) (h1.below k))
  unfold rowsQ
  generalize rowsB l = q1 at *
  generalize goodWB ws = q2 at *
  generalize decide ((rowsL l ws).length ≤ 24) = q3 at *
  generalize rowsL l ws = r at *
  clear h0 h1 hl hw
  cases q1
  · go_enter Try.func8, Try.ntmps8
    go_wp2_with fail
    refine Ha.out.mono ?_
    rintro e w1 ⟨rfl, k1⟩
    go_wp2
    go_ret2
    exact rows_no k1
  cases q2
  · go_enter Try.func8, Try.ntmps8
    go_wp2_with fail
    refine Ha.out.mono ?_
    rintro e w1 ⟨rfl, k1⟩
    go_wp2_with fail
    refine (Hb.out _ k1).mono ?_
    rintro e w2 ⟨rfl, k2⟩
    go_wp2
    go_ret2
    exact rows_no (below_after k2 k1)
  · go_enter Try.func8, Try.ntmps8
    go_wp2_with fail
    refine Ha.out.mono ?_
    rintro e w1 ⟨rfl, k1⟩
    go_wp2_with fail
    refine (Hb.out _ k1).mono ?_
    rintro e w2 ⟨rfl, k2⟩
    have b2 := below_after k2 k1
    clear k2
    go_wp2_with fail
    refine (Hc.out (by first | rfl | trivial) (by first | rfl | trivial) _ b2).mono ?_
    rintro e w3 ⟨v', rfl, o3, k3⟩
    have HF : Hid (RowsPost q3 r w (.returned (.tuple #[v', .bool q3])) w3) := Lib.hid ⟨v', rfl, o3.mono b2.size, below_after k3 b2⟩
    clear o3 k3
    go_wp2
    go_ret2
    have := HF.out
    (first | exact this | simpa using this)

end Go.Proofs.Ytkcidneefdaaiaa
