/- Lists of strings of the calls' own: compared, marked, held. -/
import Derived.Test.YtekgackednpdgaaFrames
namespace Go.Proofs.Ytekgackednpdgaa
open Go.RowKit

def oneB (d : Nat) : ByteArray := ⟨#[UInt8.ofNat (48 + d)]⟩
def digB (n : Nat) : ByteArray := if n = 0 then ⟨#[]⟩ else digB (n / 10) ++ oneB (n % 10)
termination_by n
decreasing_by omega
theorem digB_zero : digB 0 = ⟨#[]⟩ := by rw [digB]; rfl
theorem digB_pos {n : Nat} (h : 0 < n) : digB n = digB (n / 10) ++ oneB (n % 10) := by rw [digB, if_neg (by omega)]
/-- What markText returns. -/
def markB (n : Nat) : ByteArray := ⟨#[109]⟩ ++ digB n

theorem convert_dig {P : Program} {src dst e : TypeId} (hs : P.underlying src = some (.slice e)) (he : P.underlying e = some (.int .u8)) (hd : P.underlying dst = some .string) (k : Nat) (W : World) :
    (convert src dst (.slice (some ⟨W.heap.size, 0, none⟩) 1 1)).run P (W.alloc (.cells #[.int .u8 (48 + (k : Int) % 10)] e)) = .ok (.string (oneB (k % 10))) (W.alloc (.cells #[.int .u8 (48 + (k : Int) % 10)] e)) := by
  have e1 : byteV (UInt8.ofNat (48 + k % 10)) = .int .u8 (48 + (k : Int) % 10) := by rw [byteV_ofNat (by omega)]; simp
  refine run_convert_bytes_back _ src dst e _ 1 [UInt8.ofNat (48 + k % 10)] hs he hd fun j hj => ?_
  rw [WideShapes.add_plain, Nat.zero_add, World.cell?_alloc_mark]
  rw [← e1]
  match j, hj with
  | 0, _ => rfl

set_option maxRecDepth 100000 in
/-- laws.markText -/
theorem markText_any (n : Nat) (h0 : 0 < n) (hn : n ≤ 1099511627776) (w : World) : Calls Try.prog 91 #[.int .i64 (n : Int)] w fun e w' => e = .returned (.string (markB n)) ∧ Below w.heap.size w w' := by
  have Hn := Lib.hid hn
  have h01 : (0 : Int) < (n : Int) := by omega
  clear hn
  go_enter Try.func91, Try.ntmps91
  go_wp2
  go_loopw [0, 3] (fun m v wr => ∃ (k : Nat) (B : ByteArray), m = .int .i64 k ∧ k ≤ n ∧ v = .string B ∧ Hid (B.size + k ≤ n) ∧ Hid (digB k ++ B = digB n) ∧ Below w.heap.size w wr) (fun m _ _ => (intOf m).toNat)
  case atStart => exact ⟨n, ⟨#[]⟩, rfl, Nat.le_refl _, rfl, Lib.hid (by show 0 + n ≤ n; omega), Lib.hid (by exact ByteArray.append_empty), Below.refl _ _⟩
  case round =>
    obtain ⟨k, B, rfl, hk, rfl, hs, Hd, hb⟩ := hrel
    have hbs := hb.size
    by_cases hlt : 0 < k
    · have hlt2 : (0 : Int) < (k : Int) := by omega
      have hkb : (k : Int) ≤ 1099511627776 := by have := Hn.out; omega
      have hadd := fun W => run_string_add_sum (P := Try.prog) (w := W) (oneB (k % 10)) B (by have := hs.out; have := Hn.out; show 1 + B.size ≤ _; omega)
      have hcv := convert_dig (src := 162) (dst := 9) Try.underlying162 Try.underlying5 Try.underlying9 k
      go_wp2
      go_roundw
      case rel => exact ⟨k / 10, oneB (k % 10) ++ B, by go_num, by omega, rfl, Lib.hid (by rw [ByteArray.size_append]; show 1 + B.size + k / 10 ≤ n; have := hs.out; omega), Lib.hid (by rw [← Hd.out, digB_pos hlt, ByteArray.append_assoc]), below_alloc _ hb⟩
      case measure => simp [intOf]; omega
    · obtain rfl : k = 0 := by omega
      have hadd := fun W => run_string_add_sum (P := Try.prog) (w := W) ⟨#[109]⟩ B (by have := hs.out; have := Hn.out; show 1 + B.size ≤ _; omega)
      go_wp2
      go_ret
      exact ⟨ret_str (by unfold markB; rw [← Hd.out, digB_zero]; simp; first | done | rfl), hb⟩

/-- The marks from k on. -/
def marksL : Nat → Nat → List ByteArray
  | _, 0 => []
  | k, n + 1 => markB k :: marksL (k + 1) n
theorem marksL_length (k n : Nat) : (marksL k n).length = n := by
  induction n generalizing k with
  | zero => rfl
  | succ n ih => simp [marksL, ih]
theorem marksL_get (k n j : Nat) (h : j < (marksL k n).length) : (marksL k n)[j] = markB (k + j) := by
  induction n generalizing k j with
  | zero => simp [marksL] at h
  | succ n ih =>
    cases j with
    | zero => rfl
    | succ j =>
      simp only [marksL, List.getElem_cons_succ]
      rw [ih]
      congr 1
      omega
theorem marksL_snoc (k j : Nat) : marksL k (j + 1) = marksL k j ++ [markB (k + j)] := by
  apply List.ext_getElem
  · simp [marksL_length]
  · intro i h1 h2
    rw [marksL_get]
    by_cases h : i < j
    · rw [List.getElem_append_left (by rw [marksL_length]; exact h), marksL_get]
    · have hi : i = j := by simp [marksL_length] at h1; omega
      subst hi
      rw [List.getElem_append_right (by rw [marksL_length]; omega)]
      simp

theorem own_forms {w : World} {base size n : Nat} {e : TypeId} {v : Value} {xs : List Value} (h : w.ownsRow base e size v n xs) : (v = .slice none 0 0 ∧ n = 0) ∨ ∃ g cap, v = .slice (some ⟨g, 0, none⟩) n cap := by
  rcases h.2 with h0 | ⟨g, cap, _, hv, _⟩
  · exact Or.inl h0
  · exact Or.inr ⟨g, cap, hv⟩

/-- A list of strings in memory. -/
def StrRow (w : World) (v : Value) (l : List ByteArray) : Prop :=
  ∃ p cap, v = .slice p l.length cap ∧ (0 < l.length → ∃ g o, p = some ⟨g, o, none⟩ ∧ g < w.heap.size ∧ ∀ j (h : j < l.length), w.cell? ⟨g, o + j, none⟩ = some (.string l[j]))

theorem StrRow.below {w w' : World} {v : Value} {l : List ByteArray} (h : StrRow w v l) (k : Below w.heap.size w w') : StrRow w' v l := by
  obtain ⟨p, cap, rfl, h⟩ := h
  refine ⟨p, cap, rfl, fun hl => ?_⟩
  obtain ⟨g, o, rfl, hg, hc⟩ := h hl
  exact ⟨g, o, rfl, Nat.lt_of_lt_of_le hg k.size, fun j hj => (k.cell (p := ⟨g, o + j, none⟩) hg).trans (hc j hj)⟩

theorem StrRow.owned {w : World} {base : Nat} {e : TypeId} {v : Value} {l : List ByteArray} (h : w.ownsRow base e 1 v l.length (l.map Value.string)) : StrRow w v l := by
  rcases own_forms h with ⟨rfl, h0⟩ | ⟨g, cap, rfl⟩
  · exact ⟨none, 0, by rw [h0], fun hl => by omega⟩
  · refine ⟨_, cap, rfl, fun hl => ⟨g, 0, rfl, ((h.lt g rfl).2), fun j hj => ?_⟩⟩
    rw [Nat.zero_add, h.cellAt j (by omega)]
    simp [List.getElem?_eq_getElem hj]

set_option maxRecDepth 100000 in
/-- laws.eqStringS of two lists that are one. -/
theorem eqStringS_same (v1 v2 : Value) (l : List ByteArray) (hl : l.length ≤ 1099511627776) (w : World) (h1 : StrRow w v1 l) (h2 : StrRow w v2 l) :
    Calls Try.prog 35 #[v1, v2] w fun e w' => e = .returned (.bool true) ∧ Below w.heap.size w w' := by
  obtain ⟨p1, c1, rfl, r1⟩ := h1
  obtain ⟨p2, c2, rfl, r2⟩ := h2
  have R1 := Lib.hid r1
  have R2 := Lib.hid r2
  have Hl := Lib.hid hl
  clear r1 r2 hl
  obtain ⟨n, hn⟩ : ∃ n : Nat, l.length = n := ⟨_, rfl⟩
  have Hn := Lib.hid hn
  rw [hn]
  clear hn
  go_enter Try.func35, Try.ntmps35
  go_wp2
  go_loopw [5] (fun i wr => ∃ k : Nat, i = .int .i64 (k : Int) ∧ k ≤ n ∧ Below w.heap.size w wr) (fun i _ => n - (intOf i).toNat)
  case atStart => exact ⟨0, rfl, Nat.zero_le _, Below.refl _ _⟩
  case round =>
    obtain ⟨k, rfl, hk, hb⟩ := hrel
    by_cases hlt : k < n
    · have hlt2 : (k : Int) < (n : Int) := by omega
      have hnb : (n : Int) ≤ 1099511627776 := by have := Hl.out; have := Hn.out; omega
      obtain ⟨g1, o1, rfl, hg1, hc1⟩ := R1.out (by have := Hn.out; omega)
      obtain ⟨g2, o2, rfl, hg2, hc2⟩ := R2.out (by have := Hn.out; omega)
      have d1 : wr.cell? ⟨g1, o1 + k, none⟩ = some (.string (l[k]'(by have := Hn.out; omega))) := (hb.cell (p := ⟨g1, o1 + k, none⟩) hg1).trans (hc1 k _)
      have d2 : wr.cell? ⟨g2, o2 + k, none⟩ = some (.string (l[k]'(by have := Hn.out; omega))) := (hb.cell (p := ⟨g2, o2 + k, none⟩) hg2).trans (hc2 k _)
      clear hc1 hc2
      generalize l[k]'(by have := Hn.out; omega) = s at *
      go_wp2
      go_quiet (fail)
      go_wp2
      go_roundw
      case rel => exact ⟨k + 1, by go_num, by omega, below_drewN hb _⟩
      case measure => simp [intOf]; omega
    · have hlt2 : (n : Int) ≤ (k : Int) := by omega
      go_wp2
      go_ret
      exact ⟨rfl, hb⟩

set_option maxRecDepth 100000 in
/-- laws.markStringS -/
theorem markStringS_any (base k0 n : Nat) (v : Value) (xs : List Value) (h0 : 0 < k0) (hk : k0 ≤ 549755813888) (hn : n ≤ 549755813888) (w : World) (h : w.ownsRow base 9 1 v n xs) (hbase : base ≤ w.heap.size) :
    Calls Try.prog 36 #[v, .int .i64 (k0 : Int)] w fun e w' => e = .returned (.int .i64 ((k0 : Int) + (n : Int))) ∧ w'.ownsRow base 9 1 v n ((marksL k0 n).map Value.string) ∧ Below base w w' := by
  have hform : ∃ p cap, v = .slice p n cap ∧ (0 < n → ∃ g, p = some ⟨g, 0, none⟩ ∧ base ≤ g) := by
    rcases own_forms h with ⟨rfl, h0⟩ | ⟨g, cap, rfl⟩
    · exact ⟨none, 0, by rw [h0], fun hl => by omega⟩
    · exact ⟨_, cap, rfl, fun hl => ⟨g, rfl, (h.lt g rfl).1⟩⟩
  have hxs : xs.length = n := by have := h.1; omega
  obtain ⟨p, cap, rfl, hp⟩ := hform
  have Hp := Lib.hid hp
  have Hx := Lib.hid hxs
  have Hkb := Lib.hid (show k0 ≤ 549755813888 ∧ n ≤ 549755813888 from ⟨hk, hn⟩)
  have Ho := Lib.hid h
  clear hp hxs h
  go_enter Try.func36, Try.ntmps36
  go_wp2
  go_loopw [1, 5] (fun kk i wr => ∃ j : Nat, i = .int .i64 (j : Int) ∧ kk = .int .i64 ((k0 : Int) + (j : Int)) ∧ j ≤ n ∧ Hid (wr.ownsRow base 9 1 (.slice p n cap) n ((marksL k0 j).map Value.string ++ xs.drop j)) ∧ Below base w wr) (fun _ i _ => n - (intOf i).toNat)
  case atStart => exact ⟨0, rfl, by go_num, Nat.zero_le _, Lib.hid (by simpa [marksL] using Ho.out), Below.refl _ _⟩
  case round =>
    obtain ⟨j, rfl, rfl, hj, Hown, hb⟩ := hrel
    have hbs := hb.size
    by_cases hlt : j < n
    · have hlt2 : (j : Int) < (n : Int) := by omega
      have hkj : (k0 : Int) + (j : Int) ≤ 1099511627776 := by have := Hkb.out; omega
      obtain ⟨g, rfl, hg⟩ := Hp.out (by omega)
      have Hc : Hid (∀ W, Calls Try.prog 91 #[.int .i64 ((k0 : Int) + (j : Int))] W fun e w' => e = .returned (.string (markB (k0 + j))) ∧ Below W.heap.size W w') :=
        Lib.hid fun W => by rw [← Int.natCast_add]; exact markText_any (k0 + j) (by omega) (by have := Hkb.out; omega) W
      go_wp2_with fail
      refine (Hc.out _).mono ?_
      rintro e w1 ⟨rfl, k1⟩
      have hown1 := own_below Hown.out k1
      have hjl : j < ((marksL k0 j).map Value.string ++ xs.drop j).length := by simp [marksL_length]; have := Hx.out; omega
      have d0 : w1.cell? ⟨g, j, none⟩ = some (((marksL k0 j).map Value.string ++ xs.drop j)[j]'hjl) := by rw [hown1.cellAt j (by omega), List.getElem?_eq_getElem hjl]
      have f0 := hown1.frozenAt j
      have hst := hown1.stored j (.string (markB (k0 + j)))
      have e1 : ((marksL k0 j).map Value.string ++ xs.drop j).set j (.string (markB (k0 + j))) = (marksL k0 (j + 1)).map Value.string ++ xs.drop (j + 1) := by
        have h2 : xs.drop j = (xs[j]'(by have := Hx.out; omega)) :: xs.drop (j + 1) := List.drop_eq_getElem_cons _
        rw [h2, List.set_append_right _ _ (by simp [marksL_length]), show j - (List.map Value.string (marksL k0 j)).length = 0 from by simp [marksL_length], List.set_cons_zero, marksL_snoc]
        simp
      rw [e1] at hst
      have Hst := Lib.hid hst.1
      clear hst e1 hown1
      generalize ((marksL k0 j).map Value.string ++ xs.drop j)[j]'hjl = old at *
      have hb1 : Below base w w1 := hb.trans (k1.mono (by omega))
      clear k1
      go_wp2
      go_roundw
      case rel => exact ⟨j + 1, by go_num, by go_num, by omega, Hst, hb1.setCell hg _⟩
      case measure => simp [intOf]; omega
    · have hlt2 : (n : Int) ≤ (j : Int) := by omega
      obtain rfl : j = n := by omega
      go_wp2
      go_ret
      refine ⟨rfl, ?_, hb⟩
      have h3 := Hown.out
      rw [List.drop_of_length_le (by have := Hx.out; omega), List.append_nil] at h3
      exact h3

set_option maxRecDepth 100000 in
/-- laws.heldStringS of marks. -/
theorem heldStringS_any (k0 n : Nat) (v : Value) (h0 : 0 < k0) (hk : k0 ≤ 549755813888) (hn : n ≤ 549755813888) (w : World) (h : StrRow w v (marksL k0 n)) :
    Calls Try.prog 37 #[v, .int .i64 (k0 : Int)] w fun e w' => e = .returned (.int .i64 ((k0 : Int) + (n : Int))) ∧ Below w.heap.size w w' := by
  obtain ⟨p, cap, rfl, r⟩ := h
  have Hkb := Lib.hid (show k0 ≤ 549755813888 ∧ n ≤ 549755813888 from ⟨hk, hn⟩)
  have R := Lib.hid r
  rw [marksL_length]
  clear r
  go_enter Try.func37, Try.ntmps37
  go_wp2
  go_loopw [1, 5] (fun kk i wr => ∃ j : Nat, i = .int .i64 (j : Int) ∧ kk = .int .i64 ((k0 : Int) + (j : Int)) ∧ j ≤ n ∧ Below w.heap.size w wr) (fun _ i _ => n - (intOf i).toNat)
  case atStart => exact ⟨0, rfl, by go_num, Nat.zero_le _, Below.refl _ _⟩
  case round =>
    obtain ⟨j, rfl, rfl, hj, hb⟩ := hrel
    have hbs := hb.size
    by_cases hlt : j < n
    · have hlt2 : (j : Int) < (n : Int) := by omega
      have hkj : (k0 : Int) + (j : Int) ≤ 1099511627776 := by have := Hkb.out; omega
      obtain ⟨g, o, rfl, hg, hc⟩ := R.out (by rw [marksL_length]; omega)
      have d0 : wr.cell? ⟨g, o + j, none⟩ = some (.string (markB (k0 + j))) := by
        rw [← marksL_get k0 n j (by rw [marksL_length]; exact hlt)]
        exact (hb.cell (p := ⟨g, o + j, none⟩) hg).trans (hc j _)
      clear hc
      have hgl : g < wr.heap.size := by omega
      have Hc : Hid (∀ W, Calls Try.prog 91 #[.int .i64 ((k0 : Int) + (j : Int))] W fun e w' => e = .returned (.string (markB (k0 + j))) ∧ Below W.heap.size W w') :=
        Lib.hid fun W => by rw [← Int.natCast_add]; exact markText_any (k0 + j) (by omega) (by have := Hkb.out; omega) W
      generalize markB (k0 + j) = s at *
      go_wp2_with fail
      have hx2 := fun (u : World) (b o : Nat) (h : b < wr.heap.size) => ext_cell wr u b o h
      refine wp_region_ext (by kernel_rfl) (by kernel_rfl) wr.heap.size ?_
      repeat (any_goals (go_big_quiet_step ((go_at_call 91; exact calls_ext (by first | (simp; done) | omega | (simp; omega)) (Hc.out _)))))
      refine wpQuiet_nil ?_
      intro w2 hb2
      clear hx2
      go_wp2
      go_roundw
      case rel => exact ⟨j + 1, by go_num, by go_num, by omega, below_after hb2 hb⟩
      case measure => simp [intOf]; omega
    · have hlt2 : (n : Int) ≤ (j : Int) := by omega
      obtain rfl : j = n := by omega
      go_wp2
      go_ret
      exact ⟨rfl, hb⟩

end Go.Proofs.Ytekgackednpdgaa
