/- spec.NewPoll. Printed by mkpoll.py. -/
import Derived.Test.YtbkhooklieangaaPoll1
namespace Go.Proofs.Ytbkhooklieangaa
open Go.RowKit

theorem Try_infoP_voter : (Try.prog.info? 67).map (fun i => (i.zero, i.size, i.bytes)) = some (some (.agg #[.bool false, .int .i64 0, .int .i64 0, .slice none 0 0, .bool false]), 5, 56) := by kernel_rfl

theorem voter_rdE {w0 : World} {e : TypeId} {H base : Nat} (hH : w0.heap.size = H) (hb : base ≤ H) :
    ∃ f, Cod.voter.rd (w0.alloc (.cells #[] e)) (lst [.bool true, .int .i64 0, .int .i64 (-1), .slice (some ⟨H, 0, none⟩) 0 0, .bool false]) voter0 f ∧ Mine (w0.alloc (.cells #[] e)) base f := by
  obtain ⟨f, h, m⟩ := own_made0 (c := Cod.int) (e := e) hH hb
  refine ⟨f ++ [], mk_voter (x := voter0) rfl rfl (by unfold I64 voter0; simp) rfl (by unfold I64 voter0; simp) rfl h rfl, ?_⟩
  rw [List.append_nil]
  exact m

set_option maxRecDepth 100000 in
set_option maxHeartbeats 6400000 in
/-- spec.NewPoll -/
theorem newPollS_any (v : Value) (l : List Int) (far : Int) (hl : l.length ≤ 1048576) (w : World) (h : Rd Cod.int w v l) :
    Calls Try.prog 7 #[v, .int .i64 far] w fun e w' => PollRes l far (pollB l far) w.heap.size e w' ∧ Below w.heap.size w w' := by
  obtain ⟨i0, hi, hy0, hy1, hy2⟩ := info_parts Try_infoP_voter
  have HN := Lib.hid (fun (W : World) (b : Below w.heap.size w W) => newNetS_any v l far hl W (h.below b))
  obtain ⟨p, c, rfl, -⟩ := h.form
  clear h
  unfold NetRes at HN
  unfold pollB
  obtain ⟨qm, hqm⟩ : ∃ q, manyI (l.length : Int) = q := ⟨_, rfl⟩
  rw [hqm]
  generalize homesB l far = q at *
  obtain ⟨n, hn⟩ : ∃ n, l.length = n := ⟨_, rfl⟩
  rw [hn] at HN hqm ⊢
  cases q
  · rw [Bool.false_and]
    clear hqm hn hl
    go_enter Try.func7, Try.ntmps7
    go_wp2_with fail
    refine (HN.out _ (by (repeat (first | (with_reducible exact Below.refl _ _) | (with_reducible refine below_setCell ?_ (by first | (simp; done) | (simp; omega) | omega)) | (with_reducible refine below_alloc _ ?_) | (with_reducible refine below_drewN ?_ _) | (with_reducible assumption) | (with_reducible refine below_after (by assumption) ?_))))).mono ?_
    rintro e w1 ⟨⟨pn, nn, cn, rfl, on⟩, k1⟩
    have Z := (Blk.new w 29 #[.slice none 0 0, .int .i64 0, .slice none 0 0, .int .i64 0, .slice none 0 0, .slice none 0 0]).below k1
    have bw : Below w.heap.size w w1 := below_after k1 (by (repeat (first | (with_reducible exact Below.refl _ _) | (with_reducible refine below_setCell ?_ (by first | (simp; done) | (simp; omega) | omega)) | (with_reducible refine below_alloc _ ?_) | (with_reducible refine below_drewN ?_ _) | (with_reducible assumption) | (with_reducible refine below_after (by assumption) ?_))))
    have hz := Z.lt
    clear k1
    go_upto_region 2 with fail
    generalize hw1b : World.alloc _ _ = w1b
    have N : Blk w1b w1.heap.size 26 #[.int .i64 0, .slice pn nn cn, .int .i64 0, .slice none 0 0] := by rw [← hw1b]; exact Blk.new _ _ _
    have m1 : Below w1.heap.size w1 w1b := by rw [← hw1b]; exact below_new _ _
    replace Z := Z.below m1
    replace bw : Below w.heap.size w w1b := below_after m1 bw
    replace on := on.below m1
    have h1b := N.lt
    clear hw1b m1
    have z0 := Z.cell 0 (v := .slice none 0 0) rfl
    have zf0 := Z.frozen 0
    have z1 := Z.cell 1 (v := .int .i64 0) rfl
    have zf1 := Z.frozen 1
    have z2 := Z.cell 2 (v := .slice none 0 0) rfl
    have zf2 := Z.frozen 2
    have z3 := Z.cell 3 (v := .int .i64 0) rfl
    have zf3 := Z.frozen 3
    have z4 := Z.cell 4 (v := .slice none 0 0) rfl
    have zf4 := Z.frozen 4
    have z5 := Z.cell 5 (v := .slice none 0 0) rfl
    have zf5 := Z.frozen 5
    go_wp2
    refine bodyPost_ret (v := .tuple #[.agg #[.slice none 0 0, .int .i64 0, .slice none 0 0, .int .i64 0, .slice none 0 0, .slice none 0 0], .bool false]) (by simp [results, Try.results7, go_sem, z0, zf0, z1, zf1, z2, zf2, z3, zf3, z4, zf4, z5, zf5]) rfl ?_
    exact pollres_zero l far (by (repeat (first | (with_reducible exact Below.refl _ _) | (with_reducible refine below_setCell ?_ (by first | (simp; done) | (simp; omega) | omega)) | (with_reducible refine below_alloc _ ?_) | (with_reducible refine below_drewN ?_ _) | (with_reducible assumption) | (with_reducible refine below_after (by assumption) ?_))))
  · rw [Bool.true_and]
    cases qm
    · have h3 : ((n : Int) != 3) = true := by unfold manyI at hqm; simp at hqm ⊢; omega
      have h5 : ((n : Int) != 5) = true := by unfold manyI at hqm; simp at hqm ⊢; omega
      clear hqm hn hl
      go_enter Try.func7, Try.ntmps7
      go_wp2_with fail
      refine (HN.out _ (by (repeat (first | (with_reducible exact Below.refl _ _) | (with_reducible refine below_setCell ?_ (by first | (simp; done) | (simp; omega) | omega)) | (with_reducible refine below_alloc _ ?_) | (with_reducible refine below_drewN ?_ _) | (with_reducible assumption) | (with_reducible refine below_after (by assumption) ?_))))).mono ?_
      rintro e w1 ⟨⟨pn, nn, cn, rfl, on⟩, k1⟩
      have Z := (Blk.new w 29 #[.slice none 0 0, .int .i64 0, .slice none 0 0, .int .i64 0, .slice none 0 0, .slice none 0 0]).below k1
      have bw : Below w.heap.size w w1 := below_after k1 (by (repeat (first | (with_reducible exact Below.refl _ _) | (with_reducible refine below_setCell ?_ (by first | (simp; done) | (simp; omega) | omega)) | (with_reducible refine below_alloc _ ?_) | (with_reducible refine below_drewN ?_ _) | (with_reducible assumption) | (with_reducible refine below_after (by assumption) ?_))))
      have hz := Z.lt
      clear k1
      go_upto_region 2 with fail
      generalize hw1b : World.alloc _ _ = w1b
      have N : Blk w1b w1.heap.size 26 #[.int .i64 0, .slice pn nn cn, .int .i64 far, .slice none 0 0] := by rw [← hw1b]; exact Blk.new _ _ _
      have m1 : Below w1.heap.size w1 w1b := by rw [← hw1b]; exact below_new _ _
      replace Z := Z.below m1
      replace bw : Below w.heap.size w w1b := below_after m1 bw
      replace on := on.below m1
      have h1b := N.lt
      clear hw1b m1
      have z0 := Z.cell 0 (v := .slice none 0 0) rfl
      have zf0 := Z.frozen 0
      have z1 := Z.cell 1 (v := .int .i64 0) rfl
      have zf1 := Z.frozen 1
      have z2 := Z.cell 2 (v := .slice none 0 0) rfl
      have zf2 := Z.frozen 2
      have z3 := Z.cell 3 (v := .int .i64 0) rfl
      have zf3 := Z.frozen 3
      have z4 := Z.cell 4 (v := .slice none 0 0) rfl
      have zf4 := Z.frozen 4
      have z5 := Z.cell 5 (v := .slice none 0 0) rfl
      have zf5 := Z.frozen 5
      go_wp2
      refine bodyPost_ret (v := .tuple #[.agg #[.slice none 0 0, .int .i64 0, .slice none 0 0, .int .i64 0, .slice none 0 0, .slice none 0 0], .bool false]) (by simp [results, Try.results7, go_sem, z0, zf0, z1, zf1, z2, zf2, z3, zf3, z4, zf4, z5, zf5]) rfl ?_
      exact pollres_zero l far (by (repeat (first | (with_reducible exact Below.refl _ _) | (with_reducible refine below_setCell ?_ (by first | (simp; done) | (simp; omega) | omega)) | (with_reducible refine below_alloc _ ?_) | (with_reducible refine below_drewN ?_ _) | (with_reducible assumption) | (with_reducible refine below_after (by assumption) ?_))))
    · have hm : (n : Int) = 3 ∨ (n : Int) = 5 := by unfold manyI at hqm; simp at hqm; omega
      dsimp only [pickL, pickI] at HN ⊢
      unfold PollRes
      dsimp only [pickL, pickI]
      rw [hn]
      have hnb : (n : Int) ≤ 5 := by omega
      have h35 : (((n : Int) != 3) = false) ∨ ((((n : Int) != 3) = true) ∧ (((n : Int) != 5) = false)) := by
        rcases hm with h | h <;> rw [h] <;> decide
      clear hm hn hl hqm
      generalize hb3 : ((n : Int) != 3) = b3 at *
      generalize hb5 : ((n : Int) != 5) = b5 at *
      rcases h35 with rfl | ⟨rfl, rfl⟩
      all_goals
        go_enter Try.func7, Try.ntmps7
        go_wp2_with fail
        refine (HN.out _ (by (repeat (first | (with_reducible exact Below.refl _ _) | (with_reducible refine below_setCell ?_ (by first | (simp; done) | (simp; omega) | omega)) | (with_reducible refine below_alloc _ ?_) | (with_reducible refine below_drewN ?_ _) | (with_reducible assumption) | (with_reducible refine below_after (by assumption) ?_))))).mono ?_
        rintro e w1 ⟨⟨pn, nn, cn, rfl, on'⟩, k1⟩
        have Z := (Blk.new w 29 #[.slice none 0 0, .int .i64 0, .slice none 0 0, .int .i64 0, .slice none 0 0, .slice none 0 0]).below k1
        have bw : Below w.heap.size w w1 := below_after k1 (by (repeat (first | (with_reducible exact Below.refl _ _) | (with_reducible refine below_setCell ?_ (by first | (simp; done) | (simp; omega) | omega)) | (with_reducible refine below_alloc _ ?_) | (with_reducible refine below_drewN ?_ _) | (with_reducible assumption) | (with_reducible refine below_after (by assumption) ?_))))
        have on := (Own.mono on' (base' := w.heap.size + 1) (by simp)).within
        have hz : w.heap.size + 1 ≤ w1.heap.size := Z.lt
        clear k1 on'
        go_upto_region 2 with fail
        generalize hw2 : World.alloc _ _ = w2
        have N : Blk w2 w1.heap.size 26 #[.int .i64 0, .slice pn nn cn, .int .i64 far, .slice none 0 0] := by rw [← hw2]; exact Blk.new _ _ _
        have m1 : Below w1.heap.size w1 w2 := by rw [← hw2]; exact below_new _ _
        replace Z := Z.below m1
        replace bw : Below w.heap.size w w2 := below_after m1 bw
        replace on := on.below m1
        have h1b := N.lt
        clear hw2 m1
        have n0 := N.cell 0 (v := .int .i64 0) rfl
        have n1 := N.cell 1 (v := .slice pn nn cn) rfl
        have n2 := N.cell 2 (v := .int .i64 far) rfl
        have n3 := N.cell 3 (v := .slice none 0 0) rfl
        go_upto_region 5 with fail
        clear n0 n1 n2 n3 N
        generalize hw3 : World.alloc _ _ = w3
        have P : Blk w3 (w2.heap.size + 1 + 1) 29 #[.slice (some ⟨w2.heap.size, 0, none⟩) 0 0, .int .i64 0, .slice pn nn cn, .int .i64 far, .slice none 0 0, .slice (some ⟨w2.heap.size + 1, 0, none⟩) 0 0] := by
          rw [← hw3]
          have := Blk.new ((w2.alloc (.cells #[] 67)).alloc (.cells #[] 119)) 29 #[.slice (some ⟨w2.heap.size, 0, none⟩) 0 0, .int .i64 0, .slice pn nn cn, .int .i64 far, .slice none 0 0, .slice (some ⟨w2.heap.size + 1, 0, none⟩) 0 0]
          rwa [show ((w2.alloc (.cells #[] 67)).alloc (.cells #[] 119)).heap.size = w2.heap.size + 1 + 1 from by simp] at this
        have m3 : Below w2.heap.size w2 w3 := by rw [← hw3]; (repeat (first | (with_reducible exact Below.refl _ _) | (with_reducible refine below_setCell ?_ (by first | (simp; done) | (simp; omega) | omega)) | (with_reducible refine below_alloc _ ?_) | (with_reducible refine below_drewN ?_ _) | (with_reducible assumption) | (with_reducible refine below_after (by assumption) ?_)))
        replace Z := Z.below m3
        replace on := on.below m3
        replace bw : Below w.heap.size w w3 := below_after m3 bw
        have hP := P.lt
        clear hw3 m3
        go_wp2
        go_loopw [9] (fun i wr => ∃ (k : Nat) (pa : Option Addr) (ca : Nat), i = .int .i64 (k : Int) ∧ k ≤ n ∧ Blk wr w.heap.size 29 #[.slice none 0 0, .int .i64 0, .slice none 0 0, .int .i64 0, .slice none 0 0, .slice none 0 0] ∧ Blk wr (w2.heap.size + 1 + 1) 29 #[.slice pa k ca, .int .i64 0, .slice pn nn cn, .int .i64 far, .slice none 0 0, .slice (some ⟨w2.heap.size + 1, 0, none⟩) 0 0] ∧ Hid (PartV Cod.voter wr (w2.heap.size + 3) 67 (.slice pa k ca) k (List.replicate k voter0)) ∧ Hid (OwnIn Cod.int wr (w.heap.size + 1) w1.heap.size (.slice pn nn cn) l) ∧ Below w.heap.size w wr ∧ w2.heap.size + 1 + 1 < wr.heap.size) (fun i _ => n - (intOf i).toNat)
        case atStart => exact ⟨0, some ⟨w2.heap.size, 0, none⟩, 0, rfl, Nat.zero_le _, Z, P, Lib.hid (Or.inl ⟨_, rfl, rfl, rfl⟩), Lib.hid on, bw, hP⟩
        case round =>
          clear Z P on bw hP
          obtain ⟨k, pa, ca, rfl, hk, Z, P, Hp, Hon, bw, hP⟩ := hrel
          by_cases hlt : k < n
          · have hlt2 : (k : Int) < (n : Int) := by omega
            have Hktl : Hid ((List.replicate k voter0).length = k) := Lib.hid (by simp)
            have Hroom : Hid ((k + 1) * 56 ≤ room) := Lib.hid (by unfold room; omega)
            have hz3 : w2.heap.size + 3 ≤ wr.heap.size := hP
            obtain ⟨fx, hx, hmx⟩ := voter_rdE (w0 := wr) (e := 3) (H := wr.heap.size) rfl (Nat.le_refl _)
            have Hx := Lib.hid hx
            have Hmx := Lib.hid hmx
            clear hx hmx
            have p0 := P.cell 0 (v := .slice pa k ca) rfl
            go_wp2_with (at_builtin; go_must (refine wpList_append_partV (c := Cod.voter) (wr.alloc (.cells #[] 3)) rfl _ _ 23 (by rfl) (w2.heap.size + 3) 67 67 i0 (.agg #[.bool false, .int .i64 0, .int .i64 0, .slice none 0 0, .bool false]) 56 Try.underlying23 hi hy0 hy1 hy2 rfl (by decide) (by decide) wr (.slice pa k ca) k (List.replicate k voter0) (by simp [Act.eval, Act.put]) Hp.out Hktl.out (below_new _ _) voter0 fx [.bool true, .int .i64 0, .int .i64 (-1), .slice (some ⟨wr.heap.size, 0, none⟩) 0 0, .bool false] rfl Hx.out Hmx.out (wr.heap.size + 1) (by simp) (by simp [Act.eval, Act.put]) (by simp [Value.oneCell']) Hroom.out hz3 ?_))
            intro g' cap' w4 hp4 hb4
            have Hp4 := Lib.hid hp4
            have hb5' : Below (w2.heap.size + 3) wr w4 := (below_alloc _ (Below.refl _ _) |>.mono hz3).trans hb4
            have hlt3 : w2.heap.size + 1 + 1 < w2.heap.size + 3 := Nat.lt_succ_self _
            have Z4 := Z.belowB hb5' (by omega)
            have P4 := P.belowB hb5' hlt3
            have Hon4 := Lib.hid (ownIn_belowB Hon.out hb5' (by omega))
            have bw4 : Below w.heap.size w w4 := bw.trans (hb5'.mono (by omega))
            have a0 := P4.cell 0 (v := .slice pa k ca) rfl
            have af := P4.frozen 0
            have z4 : w2.heap.size + 1 + 1 < w4.heap.size := P4.lt
            have P5 : Blk (w4.setCell ⟨w2.heap.size + 1 + 1, 0, none⟩ (.slice (some ⟨g', 0, none⟩) (k + 1) cap')) (w2.heap.size + 1 + 1) 29 #[(.slice (some ⟨g', 0, none⟩) (k + 1) cap'), .int .i64 0, .slice pn nn cn, .int .i64 far, .slice none 0 0, .slice (some ⟨w2.heap.size + 1, 0, none⟩) 0 0] := P4.set 0 (.slice (some ⟨g', 0, none⟩) (k + 1) cap')
            have Z5 := Z4.other (b := (w2.heap.size + 1 + 1)) 0 (.slice (some ⟨g', 0, none⟩) (k + 1) cap') (by omega)
            have HpN : Hid (PartV Cod.voter (w4.setCell ⟨w2.heap.size + 1 + 1, 0, none⟩ (.slice (some ⟨g', 0, none⟩) (k + 1) cap')) (w2.heap.size + 3) 67 (.slice (some ⟨g', 0, none⟩) (k + 1) cap') (k + 1) (List.replicate (k + 1) voter0)) := Lib.hid (by
              rw [rep_snoc]
              exact PartV.keep (Or.inr Hp4.out) (keep_set (Keep.refl _ _) (Nat.lt_succ_self _)))
            have Hon5 : Hid (OwnIn Cod.int (w4.setCell ⟨w2.heap.size + 1 + 1, 0, none⟩ (.slice (some ⟨g', 0, none⟩) (k + 1) cap')) (w.heap.size + 1) w1.heap.size (.slice pn nn cn) l) := Lib.hid (ownIn_frame Hon4.out fun d _ h2 _ => Below.heap_setCell w4 ⟨w2.heap.size + 1 + 1, 0, none⟩ _ d (by show d ≠ (w2.heap.size + 1 + 1); omega))
            have bw5 := below_setCell (p := ⟨w2.heap.size + 1 + 1, 0, none⟩) (u := .slice (some ⟨g', 0, none⟩) (k + 1) cap') bw4 (by show w.heap.size ≤ (w2.heap.size + 1 + 1); omega)
            clear hp4 Hp hb4 hb5' p0 bw Z P Z4 P4 Hon Hon4 bw4
            go_wp2
            go_roundw
            case rel => exact ⟨k + 1, _, cap', by go_num, by omega, Z5, P5, HpN, Hon5, bw5, by simp; exact z4⟩
            case measure => simp [intOf]; omega
          · have hlt2 : (n : Int) ≤ (k : Int) := by omega
            obtain rfl : k = n := by omega
            have O := (Hp.out.own (by simp)).within
            have on := Hon.out
            have p0 := P.cell 0 (v := .slice pa k ca) rfl
            have pf0 := P.frozen 0
            have p1 := P.cell 1 (v := .int .i64 0) rfl
            have pf1 := P.frozen 1
            have p2 := P.cell 2 (v := .slice pn nn cn) rfl
            have pf2 := P.frozen 2
            have p3 := P.cell 3 (v := .int .i64 far) rfl
            have pf3 := P.frozen 3
            have p4 := P.cell 4 (v := .slice none 0 0) rfl
            have pf4 := P.frozen 4
            have p5 := P.cell 5 (v := .slice (some ⟨w2.heap.size + 1, 0, none⟩) 0 0) rfl
            have pf5 := P.frozen 5
            have z0 := Z.cell 0 (v := .slice none 0 0) rfl
            have zf0 := Z.frozen 0
            have z1 := Z.cell 1 (v := .int .i64 0) rfl
            have zf1 := Z.frozen 1
            have z2 := Z.cell 2 (v := .slice none 0 0) rfl
            have zf2 := Z.frozen 2
            have z3 := Z.cell 3 (v := .int .i64 0) rfl
            have zf3 := Z.frozen 3
            have z4 := Z.cell 4 (v := .slice none 0 0) rfl
            have zf4 := Z.frozen 4
            have z5 := Z.cell 5 (v := .slice none 0 0) rfl
            have zf5 := Z.frozen 5
            go_wp2
            refine bodyPost_ret (v := .tuple #[.agg #[.slice pa k ca, .int .i64 0, .slice pn nn cn, .int .i64 far, .slice none 0 0, .slice (some ⟨w2.heap.size + 1, 0, none⟩) 0 0], .bool true]) (by simp [results, Try.results7, go_sem, z0, zf0, z1, zf1, z2, zf2, z3, zf3, z4, zf4, z5, zf5]) rfl ⟨⟨_, _, _, _, _, _, _, rfl, ?_⟩, by (repeat (first | (with_reducible exact Below.refl _ _) | (with_reducible refine below_setCell ?_ (by first | (simp; done) | (simp; omega) | omega)) | (with_reducible refine below_alloc _ ?_) | (with_reducible refine below_drewN ?_ _) | (with_reducible assumption) | (with_reducible refine below_after (by assumption) ?_)))⟩
            refine Own2.mono (own2_swap (lo := w.heap.size + 1) (mid := w2.heap.size + 3) (ownIn_up (ownIn_keep (B := w.heap.size + 1) O ?_ ?_) ?_) (ownIn_up (ownIn_keep (B := w.heap.size + 1) on ?_ ?_) ?_) ?_ ?_) (Nat.le_succ _)
            · omega
            · (repeat (first | (with_reducible exact Keep.refl _ _) | (with_reducible refine keep_set ?_ (by first | (simp; done) | (simp; omega) | omega)) | (with_reducible refine keep_alloc _ ?_) | (with_reducible refine keep_drewN ?_ _) | (with_reducible assumption) | (with_reducible refine keep_below (by assumption) ?_)))
            · simp
            · omega
            · (repeat (first | (with_reducible exact Keep.refl _ _) | (with_reducible refine keep_set ?_ (by first | (simp; done) | (simp; omega) | omega)) | (with_reducible refine keep_alloc _ ?_) | (with_reducible refine keep_drewN ?_ _) | (with_reducible assumption) | (with_reducible refine keep_below (by assumption) ?_)))
            · omega
            · omega
            · simp; omega

end Go.Proofs.Ytbkhooklieangaa
