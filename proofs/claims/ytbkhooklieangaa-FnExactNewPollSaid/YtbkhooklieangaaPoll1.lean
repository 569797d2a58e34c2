/- impl.NewPoll. Printed by mkpoll.py. -/
import Derived.Test.YtbkhooklieangaaNet4
import Derived.Test.YtbkhooklieangaaRepeatVoter
import Derived.Test.YtbkhooklieangaaNewg
import Derived.Test.YtbkhooklieangaaMark2
import Derived.Test.YtbkhooklieangaaHeld
import Derived.Test.YtbkhooklieangaaBlkT
namespace Go.Proofs.Ytbkhooklieangaa
open Go.RowKit

theorem ownIn_frame {α : Type} {c : Cod α} {w w' : World} {lo hi : Nat} {v : Value} {xs : List α} (h : OwnIn c w lo hi v xs) (k : ∀ d, lo ≤ d → d < hi → d < w.heap.size → w'.heap[d]? = w.heap[d]?) : OwnIn c w' lo hi v xs := by
  obtain ⟨fp, h, m, r⟩ := h
  have hf := fun d (hd : d ∈ fp) => k d (m.low d hd) (r d hd) (Cod.rdS_old c h d hd)
  exact ⟨fp, Cod.rdS_frame c hf h, m.frame hf, r⟩
theorem ownIn_belowB {α : Type} {c : Cod α} {w w' : World} {lo hi N : Nat} {v : Value} {xs : List α} (h : OwnIn c w lo hi v xs) (k : Below N w w') (hN : hi ≤ N) : OwnIn c w' lo hi v xs :=
  ownIn_frame h fun d _ h2 _ => k.block d (by omega)
theorem ownIn_keep {α : Type} {c : Cod α} {w w' : World} {lo hi B : Nat} {v : Value} {xs : List α} (h : OwnIn c w lo hi v xs) (hB : B ≤ lo) (k : Keep B w w') : OwnIn c w' lo hi v xs :=
  ownIn_frame h fun d h1 _ h3 => k.block d (Nat.le_trans hB h1) h3
theorem ownIn_up {α : Type} {c : Cod α} {w : World} {lo hi hi' : Nat} {v : Value} {xs : List α} (h : OwnIn c w lo hi v xs) (k : hi ≤ hi') : OwnIn c w lo hi' v xs := by
  obtain ⟨fp, h, m, r⟩ := h
  exact ⟨fp, h, m, fun d hd => Nat.lt_of_lt_of_le (r d hd) k⟩

def voter0 : VoterD := ⟨true, 0, -1, [], false⟩
/-- Whether there is such a poll. -/
def pollB (l : List Int) (far : Int) : Bool := homesB l far && manyI (l.length : Int)
/-- What NewPoll hands back. -/
def PollRes (l : List Int) (far : Int) (q : Bool) (base : Nat) (e : Ending) (w' : World) : Prop :=
  ∃ pv nv cv p n c pw, e = .returned (.tuple #[.agg #[.slice pv nv cv, .int .i64 0, .slice p n c, .int .i64 (pickI q far), .slice none 0 0, .slice pw 0 0], .bool q]) ∧
    Own2 Cod.voter Cod.int w' base w'.heap.size (.slice pv nv cv) (.slice p n c) (pickL q (List.replicate l.length voter0)) (pickL q l)
theorem own_nilw {α : Type} (c : Cod α) (w : World) (base : Nat) : Own c w base (.slice none 0 0) [] := ⟨[], ⟨none, 0, rfl, Nat.le_refl _, Nat.zero_le _, fun _ => rfl, Or.inl ⟨rfl, rfl⟩⟩, Mine.nil _ _⟩
theorem pollres_zero (l : List Int) (far : Int) {w w' : World} (b : Below w.heap.size w w') : PollRes l far false w.heap.size (.returned (.tuple #[.agg #[.slice none 0 0, .int .i64 0, .slice none 0 0, .int .i64 0, .slice none 0 0, .slice none 0 0], .bool false])) w' ∧ Below w.heap.size w w' :=
  ⟨⟨none, 0, 0, none, 0, 0, none, rfl, own2_of (mid := w'.heap.size) ((own_nilw Cod.voter w' w.heap.size).within) ((own_nilw Cod.int w' w'.heap.size).within) b.size (Nat.le_refl _)⟩, b⟩
theorem voter_rd0 (W : World) : Cod.voter.rd W (lst [.bool true, .int .i64 0, .int .i64 (-1), .slice none 0 0, .bool false]) voter0 [] :=
  mk_voter (x := voter0) (uYes := .slice none 0 0) (fYes := []) rfl rfl (by unfold I64 voter0; simp) rfl (by unfold I64 voter0; simp) rfl ⟨none, 0, rfl, Nat.le_refl _, Nat.zero_le _, fun _ => rfl, Or.inl ⟨rfl, rfl⟩⟩ rfl

set_option maxRecDepth 100000 in
set_option maxHeartbeats 6400000 in
/-- impl.NewPoll -/
theorem newPoll_any (v : Value) (l : List Int) (far : Int) (hl : l.length ≤ 1048576) (w : World) (h : Rd Cod.int w v l) :
    Calls Try.prog 9 #[v, .int .i64 far] w fun e w' => PollRes l far (pollB l far) w.heap.size e w' ∧ Below w.heap.size w w' := by
  have HN := Lib.hid (fun (W : World) (b : Below w.heap.size w W) => newNet_any v l far hl W (h.below b))
  have Hm := Lib.hid (isMany_int (l.length : Int))
  obtain ⟨p, c, rfl, -⟩ := h.form
  clear h
  unfold NetRes at HN
  unfold pollB
  obtain ⟨qm, hqm⟩ : ∃ q, manyI (l.length : Int) = q := ⟨_, rfl⟩
  rw [hqm] at Hm ⊢
  generalize homesB l far = q at *
  obtain ⟨n, hn⟩ : ∃ n, l.length = n := ⟨_, rfl⟩
  have Hn := Lib.hid hn
  rw [hn] at HN Hm ⊢
  cases q
  · rw [Bool.false_and]
    clear hqm Hm hn hl
    go_enter Try.func9, Try.ntmps9
    go_wp2_with fail
    refine (HN.out _ (by (repeat (first | (with_reducible exact Below.refl _ _) | (with_reducible refine below_setCell ?_ (by first | (simp; done) | (simp; omega) | omega)) | (with_reducible refine below_alloc _ ?_) | (with_reducible refine below_drewN ?_ _) | (with_reducible assumption) | (with_reducible refine below_after (by assumption) ?_))))).mono ?_
    rintro e w1 ⟨⟨pn, nn, cn, rfl, on⟩, k1⟩
    have Z := (Blk.new w 29 #[.slice none 0 0, .int .i64 0, .slice none 0 0, .int .i64 0, .slice none 0 0, .slice none 0 0]).below k1
    have bw : Below w.heap.size w w1 := below_after k1 (by (repeat (first | (with_reducible exact Below.refl _ _) | (with_reducible refine below_setCell ?_ (by first | (simp; done) | (simp; omega) | omega)) | (with_reducible refine below_alloc _ ?_) | (with_reducible refine below_drewN ?_ _) | (with_reducible assumption) | (with_reducible refine below_after (by assumption) ?_))))
    have hz := Z.lt
    clear k1
    go_upto_region 2 with fail
    generalize hw1b : World.alloc _ _ = w1b
    have N : Blk w1b w1.heap.size 26 #[.int .i64 0, .slice pn nn cn, .int .i64 0, .slice none 0 0] := by rw [← hw1b]; exact Blk.new _ _ _
    have m1 : Below w1.heap.size w1 w1b := by rw [← hw1b]; exact below_new _ _
    replace Z := Z.below m1
    replace bw : Below w.heap.size w w1b := below_after m1 bw
    replace on := on.below m1
    have h1b := N.lt
    clear hw1b m1
    have z0 := Z.cell 0 (v := .slice none 0 0) rfl
    have zf0 := Z.frozen 0
    have z1 := Z.cell 1 (v := .int .i64 0) rfl
    have zf1 := Z.frozen 1
    have z2 := Z.cell 2 (v := .slice none 0 0) rfl
    have zf2 := Z.frozen 2
    have z3 := Z.cell 3 (v := .int .i64 0) rfl
    have zf3 := Z.frozen 3
    have z4 := Z.cell 4 (v := .slice none 0 0) rfl
    have zf4 := Z.frozen 4
    have z5 := Z.cell 5 (v := .slice none 0 0) rfl
    have zf5 := Z.frozen 5
    go_wp2
    refine bodyPost_ret (v := .tuple #[.agg #[.slice none 0 0, .int .i64 0, .slice none 0 0, .int .i64 0, .slice none 0 0, .slice none 0 0], .bool false]) (by simp [results, Try.results9, go_sem, z0, zf0, z1, zf1, z2, zf2, z3, zf3, z4, zf4, z5, zf5]) rfl ?_
    exact pollres_zero l far (by (repeat (first | (with_reducible exact Below.refl _ _) | (with_reducible refine below_setCell ?_ (by first | (simp; done) | (simp; omega) | omega)) | (with_reducible refine below_alloc _ ?_) | (with_reducible refine below_drewN ?_ _) | (with_reducible assumption) | (with_reducible refine below_after (by assumption) ?_))))
  · rw [Bool.true_and]
    cases qm
    · clear hqm hn hl
      go_enter Try.func9, Try.ntmps9
      go_wp2_with fail
      refine (HN.out _ (by (repeat (first | (with_reducible exact Below.refl _ _) | (with_reducible refine below_setCell ?_ (by first | (simp; done) | (simp; omega) | omega)) | (with_reducible refine below_alloc _ ?_) | (with_reducible refine below_drewN ?_ _) | (with_reducible assumption) | (with_reducible refine below_after (by assumption) ?_))))).mono ?_
      rintro e w1 ⟨⟨pn, nn, cn, rfl, on⟩, k1⟩
      have Z := (Blk.new w 29 #[.slice none 0 0, .int .i64 0, .slice none 0 0, .int .i64 0, .slice none 0 0, .slice none 0 0]).below k1
      have bw : Below w.heap.size w w1 := below_after k1 (by (repeat (first | (with_reducible exact Below.refl _ _) | (with_reducible refine below_setCell ?_ (by first | (simp; done) | (simp; omega) | omega)) | (with_reducible refine below_alloc _ ?_) | (with_reducible refine below_drewN ?_ _) | (with_reducible assumption) | (with_reducible refine below_after (by assumption) ?_))))
      have hz := Z.lt
      clear k1
      go_upto_region 2 with fail
      generalize hw1b : World.alloc _ _ = w1b
      have N : Blk w1b w1.heap.size 26 #[.int .i64 0, .slice pn nn cn, .int .i64 far, .slice none 0 0] := by rw [← hw1b]; exact Blk.new _ _ _
      have m1 : Below w1.heap.size w1 w1b := by rw [← hw1b]; exact below_new _ _
      replace Z := Z.below m1
      replace bw : Below w.heap.size w w1b := below_after m1 bw
      replace on := on.below m1
      have h1b := N.lt
      clear hw1b m1
      go_wp2_with fail
      refine (Hm.out _).mono ?_
      rintro e w2 ⟨rfl, rfl⟩
      have z0 := Z.cell 0 (v := .slice none 0 0) rfl
      have zf0 := Z.frozen 0
      have z1 := Z.cell 1 (v := .int .i64 0) rfl
      have zf1 := Z.frozen 1
      have z2 := Z.cell 2 (v := .slice none 0 0) rfl
      have zf2 := Z.frozen 2
      have z3 := Z.cell 3 (v := .int .i64 0) rfl
      have zf3 := Z.frozen 3
      have z4 := Z.cell 4 (v := .slice none 0 0) rfl
      have zf4 := Z.frozen 4
      have z5 := Z.cell 5 (v := .slice none 0 0) rfl
      have zf5 := Z.frozen 5
      go_wp2
      refine bodyPost_ret (v := .tuple #[.agg #[.slice none 0 0, .int .i64 0, .slice none 0 0, .int .i64 0, .slice none 0 0, .slice none 0 0], .bool false]) (by simp [results, Try.results9, go_sem, z0, zf0, z1, zf1, z2, zf2, z3, zf3, z4, zf4, z5, zf5]) rfl ?_
      exact pollres_zero l far (by (repeat (first | (with_reducible exact Below.refl _ _) | (with_reducible refine below_setCell ?_ (by first | (simp; done) | (simp; omega) | omega)) | (with_reducible refine below_alloc _ ?_) | (with_reducible refine below_drewN ?_ _) | (with_reducible assumption) | (with_reducible refine below_after (by assumption) ?_))))
    · have h35 : n = 3 ∨ n = 5 := by rw [hn] at hqm; unfold manyI at hqm; simp at hqm; omega
      dsimp only [pickL, pickI] at HN ⊢
      unfold PollRes
      dsimp only [pickL, pickI]
      rw [hn]
      clear hqm hn hl
      rcases h35 with rfl | rfl
      · go_enter Try.func9, Try.ntmps9
        go_wp2_with fail
        refine (HN.out _ (by (repeat (first | (with_reducible exact Below.refl _ _) | (with_reducible refine below_setCell ?_ (by first | (simp; done) | (simp; omega) | omega)) | (with_reducible refine below_alloc _ ?_) | (with_reducible refine below_drewN ?_ _) | (with_reducible assumption) | (with_reducible refine below_after (by assumption) ?_))))).mono ?_
        rintro e w1 ⟨⟨pn, nn, cn, rfl, on'⟩, k1⟩
        have Z := (Blk.new w 29 #[.slice none 0 0, .int .i64 0, .slice none 0 0, .int .i64 0, .slice none 0 0, .slice none 0 0]).below k1
        have bw : Below w.heap.size w w1 := below_after k1 (by (repeat (first | (with_reducible exact Below.refl _ _) | (with_reducible refine below_setCell ?_ (by first | (simp; done) | (simp; omega) | omega)) | (with_reducible refine below_alloc _ ?_) | (with_reducible refine below_drewN ?_ _) | (with_reducible assumption) | (with_reducible refine below_after (by assumption) ?_))))
        have on := (Own.mono on' (base' := w.heap.size + 1) (by simp)).within
        have hz : w.heap.size + 1 ≤ w1.heap.size := Z.lt
        clear k1 on'
        go_upto_region 2 with fail
        generalize hw1b : World.alloc _ _ = w1b
        have N : Blk w1b w1.heap.size 26 #[.int .i64 0, .slice pn nn cn, .int .i64 far, .slice none 0 0] := by rw [← hw1b]; exact Blk.new _ _ _
        have m1 : Below w1.heap.size w1 w1b := by rw [← hw1b]; exact below_new _ _
        replace Z := Z.below m1
        replace bw : Below w.heap.size w w1b := below_after m1 bw
        replace on := on.below m1
        have h1b := N.lt
        clear hw1b m1
        go_wp2_with fail
        refine (Hm.out _).mono ?_
        rintro e w2 ⟨rfl, rfl⟩
        go_upto_region 4 with fail
        refine wp_region_d 6 (fun w' => w'.cell? ⟨w1.heap.size, 0, none⟩ = some (.int .i64 0) ∧ w'.cell? ⟨w1.heap.size, 1, none⟩ = some (.slice pn nn cn) ∧ w'.cell? ⟨w1.heap.size, 2, none⟩ = some (.int .i64 far) ∧ w'.cell? ⟨w1.heap.size, 3, none⟩ = some (.slice none 0 0)) (by kernel_rfl) ?_
        have hS : w1b.drew.cell? ⟨w1.heap.size, 0, none⟩ = some (.int .i64 0) ∧ w1b.drew.cell? ⟨w1.heap.size, 1, none⟩ = some (.slice pn nn cn) ∧ w1b.drew.cell? ⟨w1.heap.size, 2, none⟩ = some (.int .i64 far) ∧ w1b.drew.cell? ⟨w1.heap.size, 3, none⟩ = some (.slice none 0 0) := ⟨N.cell 0 rfl, N.cell 1 rfl, N.cell 2 rfl, N.cell 3 rfl⟩
        refine d_take (f := 30) (v := ?_) 0 rfl (by kernel_rfl) (fun _ _ _ h => h) (Or.inl ⟨by rfl, ?_⟩) hS ?_
        rotate_left
        · intro wx hx
          obtain ⟨x0, x1, x2, x3⟩ := hx
          first | (go_simp; done) | (go_simp; with_reducible rfl)
        simp only [Act.put, List.setIfInBounds_toArray, List.set_cons_zero, List.set_cons_succ]
        refine d_take (f := 30) (v := ?_) 2 rfl (by kernel_rfl) (fun _ _ _ h => h) (Or.inl ⟨by rfl, ?_⟩) hS ?_
        rotate_left
        · intro wx hx
          obtain ⟨x0, x1, x2, x3⟩ := hx
          first | (go_simp; done) | (go_simp; with_reducible rfl)
        simp only [Act.put, List.setIfInBounds_toArray, List.set_cons_zero, List.set_cons_succ]
        refine d_take (f := 30) (v := ?_) 3 rfl (by kernel_rfl) (fun _ _ _ h => h) (Or.inl ⟨by rfl, ?_⟩) hS ?_
        rotate_left
        · intro wx hx
          obtain ⟨x0, x1, x2, x3⟩ := hx
          first | (go_simp; done) | (go_simp; with_reducible rfl)
        simp only [Act.put, List.setIfInBounds_toArray, List.set_cons_zero, List.set_cons_succ]
        refine d_take (f := 30) (v := ?_) 5 rfl (by kernel_rfl) (fun _ _ _ h => h) (Or.inl ⟨by rfl, ?_⟩) hS ?_
        rotate_left
        · intro wx hx
          obtain ⟨x0, x1, x2, x3⟩ := hx
          first | (go_simp; done) | (go_simp; with_reducible rfl)
        simp only [Act.put, List.setIfInBounds_toArray, List.set_cons_zero, List.set_cons_succ]
        refine d_step 1 (by kernel_rfl) rfl (fun K hK => ?_)
        go_simp
        refine hK.out _ _ (fun _ => ⟨(cell_alloc_old h1b).trans hS.1, (cell_alloc_old h1b).trans hS.2.1, (cell_alloc_old h1b).trans hS.2.2.1, (cell_alloc_old h1b).trans hS.2.2.2⟩) ?_
        clear hK K
        generalize hw2 : World.drew _ = w2
        have D : Blk w2 w1b.heap.size 67 #[.bool true, .int .i64 0, .int .i64 (-1), .slice none 0 0, .bool false] := by rw [← hw2]; exact (Blk.new _ _ _).drew
        have m2 : Below w1b.heap.size w1b w2 := by rw [← hw2]; exact (below_new _ _).drew
        replace Z := Z.below m2
        replace N := N.below m2
        replace bw : Below w.heap.size w w2 := below_after m2 bw
        replace on := on.below m2
        have h2 : w1.heap.size < w2.heap.size := N.lt
        have hd2 := D.lt
        clear hw2 m2 hS
        try simp only [Act.put, List.setIfInBounds_toArray, List.set_cons_zero, List.set_cons_succ]
        refine d_step 4 (by kernel_rfl) rfl (fun K hK => ?_)
        go_simp
        go_at_call 37
        refine (repeatVoter_3 w2 w1b.heap.size (D.cell 0 rfl) (D.cell 1 rfl) (D.cell 2 rfl) (D.cell 3 rfl) (D.cell 4 rfl)).mono ?_
        rintro e w3 ⟨rfl, F⟩
        have oV := (F.own (c := Cod.voter) (x := voter0) rfl (by decide) voter_rd0).within
        have m3 := F.below
        replace Z := Z.below m3
        replace N := N.below m3
        replace bw : Below w.heap.size w w3 := below_after m3 bw
        replace on := on.below m3
        have z3 := m3.size
        have hS3 : w3.cell? ⟨w1.heap.size, 0, none⟩ = some (.int .i64 0) ∧ w3.cell? ⟨w1.heap.size, 1, none⟩ = some (.slice pn nn cn) ∧ w3.cell? ⟨w1.heap.size, 2, none⟩ = some (.int .i64 far) ∧ w3.cell? ⟨w1.heap.size, 3, none⟩ = some (.slice none 0 0) := ⟨N.cell 0 rfl, N.cell 1 rfl, N.cell 2 rfl, N.cell 3 rfl⟩
        refine hK.out _ _ (fun _ => hS3) ?_
        clear hK K F m3 D
        try simp only [Act.put, List.setIfInBounds_toArray, List.set_cons_zero, List.set_cons_succ]
        refine d_step 6 (by kernel_rfl) rfl (fun K hK => ?_)
        go_simp
        refine hK.out _ _ (fun h => by exact absurd h (by decide)) ?_
        clear hK K hS3
        try simp only [Act.put, List.setIfInBounds_toArray, List.set_cons_zero, List.set_cons_succ]
        have z0 := Z.cell 0 (v := .slice none 0 0) rfl
        have zf0 := Z.frozen 0
        have z1 := Z.cell 1 (v := .int .i64 0) rfl
        have zf1 := Z.frozen 1
        have z2 := Z.cell 2 (v := .slice none 0 0) rfl
        have zf2 := Z.frozen 2
        have z3 := Z.cell 3 (v := .int .i64 0) rfl
        have zf3 := Z.frozen 3
        have z4 := Z.cell 4 (v := .slice none 0 0) rfl
        have zf4 := Z.frozen 4
        have z5 := Z.cell 5 (v := .slice none 0 0) rfl
        have zf5 := Z.frozen 5
        refine d_step 7 (by kernel_rfl) rfl (fun K hK => ?_)
        go_simp
        refine hK.out _ _ (fun h => by exact absurd h (by decide)) ?_
        clear hK K
        refine d_step 8 (by kernel_rfl) rfl (fun K hK => ?_)
        go_simp
        refine hK.out _ _ (fun h => by exact absurd h (by decide)) ?_
        clear hK K
        refine d_done (by kernel_rfl) ?_ _
        try simp only [Act.put, List.setIfInBounds_toArray, List.set_cons_zero, List.set_cons_succ]
        go_wp2
        refine bodyPost_ret (v := .tuple #[.agg #[.slice (some ⟨w2.heap.size, 0, none⟩) 3 3, .int .i64 0, .slice pn nn cn, .int .i64 far, .slice none 0 0, .slice none 0 0], .bool true]) (by simp [results, Try.results9, go_sem, z0, zf0, z1, zf1, z2, zf2, z3, zf3, z4, zf4, z5, zf5]) rfl ⟨⟨_, _, _, _, _, _, _, rfl, ?_⟩, by (repeat (first | (with_reducible exact Below.refl _ _) | (with_reducible refine below_setCell ?_ (by first | (simp; done) | (simp; omega) | omega)) | (with_reducible refine below_alloc _ ?_) | (with_reducible refine below_drewN ?_ _) | (with_reducible assumption) | (with_reducible refine below_after (by assumption) ?_)))⟩
        refine Own2.mono (own2_swap (lo := w.heap.size + 1) (mid := w2.heap.size) (ownIn_up (ownIn_keep (B := w.heap.size + 1) oV ?_ ?_) ?_) (ownIn_up (ownIn_keep (B := w.heap.size + 1) on ?_ ?_) ?_) ?_ ?_) (Nat.le_succ _)
        · omega
        · (repeat (first | (with_reducible exact Keep.refl _ _) | (with_reducible refine keep_set ?_ (by first | (simp; done) | (simp; omega) | omega)) | (with_reducible refine keep_alloc _ ?_) | (with_reducible refine keep_drewN ?_ _) | (with_reducible assumption) | (with_reducible refine keep_below (by assumption) ?_)))
        · simp
        · omega
        · (repeat (first | (with_reducible exact Keep.refl _ _) | (with_reducible refine keep_set ?_ (by first | (simp; done) | (simp; omega) | omega)) | (with_reducible refine keep_alloc _ ?_) | (with_reducible refine keep_drewN ?_ _) | (with_reducible assumption) | (with_reducible refine keep_below (by assumption) ?_)))
        · omega
        · omega
        · simp; omega
      · go_enter Try.func9, Try.ntmps9
        go_wp2_with fail
        refine (HN.out _ (by (repeat (first | (with_reducible exact Below.refl _ _) | (with_reducible refine below_setCell ?_ (by first | (simp; done) | (simp; omega) | omega)) | (with_reducible refine below_alloc _ ?_) | (with_reducible refine below_drewN ?_ _) | (with_reducible assumption) | (with_reducible refine below_after (by assumption) ?_))))).mono ?_
        rintro e w1 ⟨⟨pn, nn, cn, rfl, on'⟩, k1⟩
        have Z := (Blk.new w 29 #[.slice none 0 0, .int .i64 0, .slice none 0 0, .int .i64 0, .slice none 0 0, .slice none 0 0]).below k1
        have bw : Below w.heap.size w w1 := below_after k1 (by (repeat (first | (with_reducible exact Below.refl _ _) | (with_reducible refine below_setCell ?_ (by first | (simp; done) | (simp; omega) | omega)) | (with_reducible refine below_alloc _ ?_) | (with_reducible refine below_drewN ?_ _) | (with_reducible assumption) | (with_reducible refine below_after (by assumption) ?_))))
        have on := (Own.mono on' (base' := w.heap.size + 1) (by simp)).within
        have hz : w.heap.size + 1 ≤ w1.heap.size := Z.lt
        clear k1 on'
        go_upto_region 2 with fail
        generalize hw1b : World.alloc _ _ = w1b
        have N : Blk w1b w1.heap.size 26 #[.int .i64 0, .slice pn nn cn, .int .i64 far, .slice none 0 0] := by rw [← hw1b]; exact Blk.new _ _ _
        have m1 : Below w1.heap.size w1 w1b := by rw [← hw1b]; exact below_new _ _
        replace Z := Z.below m1
        replace bw : Below w.heap.size w w1b := below_after m1 bw
        replace on := on.below m1
        have h1b := N.lt
        clear hw1b m1
        go_wp2_with fail
        refine (Hm.out _).mono ?_
        rintro e w2 ⟨rfl, rfl⟩
        go_upto_region 4 with fail
        refine wp_region_d 6 (fun w' => w'.cell? ⟨w1.heap.size, 0, none⟩ = some (.int .i64 0) ∧ w'.cell? ⟨w1.heap.size, 1, none⟩ = some (.slice pn nn cn) ∧ w'.cell? ⟨w1.heap.size, 2, none⟩ = some (.int .i64 far) ∧ w'.cell? ⟨w1.heap.size, 3, none⟩ = some (.slice none 0 0)) (by kernel_rfl) ?_
        have hS : w1b.drew.cell? ⟨w1.heap.size, 0, none⟩ = some (.int .i64 0) ∧ w1b.drew.cell? ⟨w1.heap.size, 1, none⟩ = some (.slice pn nn cn) ∧ w1b.drew.cell? ⟨w1.heap.size, 2, none⟩ = some (.int .i64 far) ∧ w1b.drew.cell? ⟨w1.heap.size, 3, none⟩ = some (.slice none 0 0) := ⟨N.cell 0 rfl, N.cell 1 rfl, N.cell 2 rfl, N.cell 3 rfl⟩
        refine d_take (f := 30) (v := ?_) 0 rfl (by kernel_rfl) (fun _ _ _ h => h) (Or.inl ⟨by rfl, ?_⟩) hS ?_
        rotate_left
        · intro wx hx
          obtain ⟨x0, x1, x2, x3⟩ := hx
          first | (go_simp; done) | (go_simp; with_reducible rfl)
        simp only [Act.put, List.setIfInBounds_toArray, List.set_cons_zero, List.set_cons_succ]
        refine d_take (f := 30) (v := ?_) 2 rfl (by kernel_rfl) (fun _ _ _ h => h) (Or.inl ⟨by rfl, ?_⟩) hS ?_
        rotate_left
        · intro wx hx
          obtain ⟨x0, x1, x2, x3⟩ := hx
          first | (go_simp; done) | (go_simp; with_reducible rfl)
        simp only [Act.put, List.setIfInBounds_toArray, List.set_cons_zero, List.set_cons_succ]
        refine d_take (f := 30) (v := ?_) 3 rfl (by kernel_rfl) (fun _ _ _ h => h) (Or.inl ⟨by rfl, ?_⟩) hS ?_
        rotate_left
        · intro wx hx
          obtain ⟨x0, x1, x2, x3⟩ := hx
          first | (go_simp; done) | (go_simp; with_reducible rfl)
        simp only [Act.put, List.setIfInBounds_toArray, List.set_cons_zero, List.set_cons_succ]
        refine d_take (f := 30) (v := ?_) 5 rfl (by kernel_rfl) (fun _ _ _ h => h) (Or.inl ⟨by rfl, ?_⟩) hS ?_
        rotate_left
        · intro wx hx
          obtain ⟨x0, x1, x2, x3⟩ := hx
          first | (go_simp; done) | (go_simp; with_reducible rfl)
        simp only [Act.put, List.setIfInBounds_toArray, List.set_cons_zero, List.set_cons_succ]
        refine d_step 1 (by kernel_rfl) rfl (fun K hK => ?_)
        go_simp
        refine hK.out _ _ (fun _ => ⟨(cell_alloc_old h1b).trans hS.1, (cell_alloc_old h1b).trans hS.2.1, (cell_alloc_old h1b).trans hS.2.2.1, (cell_alloc_old h1b).trans hS.2.2.2⟩) ?_
        clear hK K
        generalize hw2 : World.drew _ = w2
        have D : Blk w2 w1b.heap.size 67 #[.bool true, .int .i64 0, .int .i64 (-1), .slice none 0 0, .bool false] := by rw [← hw2]; exact (Blk.new _ _ _).drew
        have m2 : Below w1b.heap.size w1b w2 := by rw [← hw2]; exact (below_new _ _).drew
        replace Z := Z.below m2
        replace N := N.below m2
        replace bw : Below w.heap.size w w2 := below_after m2 bw
        replace on := on.below m2
        have h2 : w1.heap.size < w2.heap.size := N.lt
        have hd2 := D.lt
        clear hw2 m2 hS
        try simp only [Act.put, List.setIfInBounds_toArray, List.set_cons_zero, List.set_cons_succ]
        refine d_step 4 (by kernel_rfl) rfl (fun K hK => ?_)
        go_simp
        go_at_call 37
        refine (repeatVoter_5 w2 w1b.heap.size (D.cell 0 rfl) (D.cell 1 rfl) (D.cell 2 rfl) (D.cell 3 rfl) (D.cell 4 rfl)).mono ?_
        rintro e w3 ⟨rfl, F⟩
        have oV := (F.own (c := Cod.voter) (x := voter0) rfl (by decide) voter_rd0).within
        have m3 := F.below
        replace Z := Z.below m3
        replace N := N.below m3
        replace bw : Below w.heap.size w w3 := below_after m3 bw
        replace on := on.below m3
        have z3 := m3.size
        have hS3 : w3.cell? ⟨w1.heap.size, 0, none⟩ = some (.int .i64 0) ∧ w3.cell? ⟨w1.heap.size, 1, none⟩ = some (.slice pn nn cn) ∧ w3.cell? ⟨w1.heap.size, 2, none⟩ = some (.int .i64 far) ∧ w3.cell? ⟨w1.heap.size, 3, none⟩ = some (.slice none 0 0) := ⟨N.cell 0 rfl, N.cell 1 rfl, N.cell 2 rfl, N.cell 3 rfl⟩
        refine hK.out _ _ (fun _ => hS3) ?_
        clear hK K F m3 D
        try simp only [Act.put, List.setIfInBounds_toArray, List.set_cons_zero, List.set_cons_succ]
        refine d_step 6 (by kernel_rfl) rfl (fun K hK => ?_)
        go_simp
        refine hK.out _ _ (fun h => by exact absurd h (by decide)) ?_
        clear hK K hS3
        try simp only [Act.put, List.setIfInBounds_toArray, List.set_cons_zero, List.set_cons_succ]
        have z0 := Z.cell 0 (v := .slice none 0 0) rfl
        have zf0 := Z.frozen 0
        have z1 := Z.cell 1 (v := .int .i64 0) rfl
        have zf1 := Z.frozen 1
        have z2 := Z.cell 2 (v := .slice none 0 0) rfl
        have zf2 := Z.frozen 2
        have z3 := Z.cell 3 (v := .int .i64 0) rfl
        have zf3 := Z.frozen 3
        have z4 := Z.cell 4 (v := .slice none 0 0) rfl
        have zf4 := Z.frozen 4
        have z5 := Z.cell 5 (v := .slice none 0 0) rfl
        have zf5 := Z.frozen 5
        refine d_step 7 (by kernel_rfl) rfl (fun K hK => ?_)
        go_simp
        refine hK.out _ _ (fun h => by exact absurd h (by decide)) ?_
        clear hK K
        refine d_step 8 (by kernel_rfl) rfl (fun K hK => ?_)
        go_simp
        refine hK.out _ _ (fun h => by exact absurd h (by decide)) ?_
        clear hK K
        refine d_done (by kernel_rfl) ?_ _
        try simp only [Act.put, List.setIfInBounds_toArray, List.set_cons_zero, List.set_cons_succ]
        go_wp2
        refine bodyPost_ret (v := .tuple #[.agg #[.slice (some ⟨w2.heap.size, 0, none⟩) 5 5, .int .i64 0, .slice pn nn cn, .int .i64 far, .slice none 0 0, .slice none 0 0], .bool true]) (by simp [results, Try.results9, go_sem, z0, zf0, z1, zf1, z2, zf2, z3, zf3, z4, zf4, z5, zf5]) rfl ⟨⟨_, _, _, _, _, _, _, rfl, ?_⟩, by (repeat (first | (with_reducible exact Below.refl _ _) | (with_reducible refine below_setCell ?_ (by first | (simp; done) | (simp; omega) | omega)) | (with_reducible refine below_alloc _ ?_) | (with_reducible refine below_drewN ?_ _) | (with_reducible assumption) | (with_reducible refine below_after (by assumption) ?_)))⟩
        refine Own2.mono (own2_swap (lo := w.heap.size + 1) (mid := w2.heap.size) (ownIn_up (ownIn_keep (B := w.heap.size + 1) oV ?_ ?_) ?_) (ownIn_up (ownIn_keep (B := w.heap.size + 1) on ?_ ?_) ?_) ?_ ?_) (Nat.le_succ _)
        · omega
        · (repeat (first | (with_reducible exact Keep.refl _ _) | (with_reducible refine keep_set ?_ (by first | (simp; done) | (simp; omega) | omega)) | (with_reducible refine keep_alloc _ ?_) | (with_reducible refine keep_drewN ?_ _) | (with_reducible assumption) | (with_reducible refine keep_below (by assumption) ?_)))
        · simp
        · omega
        · (repeat (first | (with_reducible exact Keep.refl _ _) | (with_reducible refine keep_set ?_ (by first | (simp; done) | (simp; omega) | omega)) | (with_reducible refine keep_alloc _ ?_) | (with_reducible refine keep_drewN ?_ _) | (with_reducible assumption) | (with_reducible refine keep_below (by assumption) ?_)))
        · omega
        · omega
        · simp; omega

end Go.Proofs.Ytbkhooklieangaa
