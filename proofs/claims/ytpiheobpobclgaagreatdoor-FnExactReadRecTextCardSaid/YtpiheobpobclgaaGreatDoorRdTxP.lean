/- What spec.ReadRecText and impl.ReadRecText read of the words; a good record's words read back. Plain. -/
import Derived.Test.YtpiheobpobclgaaGreatDoorRdTxL
import Derived.Lib.SlicesS
import Derived.Lib.IndexMore
import Derived.Lib.Strings
namespace Go.Proofs.YtpiheobpobclgaaGreatDoor
open Go.Lib

/-- All but the first byte. -/
def tl (s : ByteArray) : ByteArray := ⟨(s.data.toList.drop 1).toArray⟩
theorem tl_list (s : ByteArray) : (tl s).data.toList = s.data.toList.drop 1 := by unfold tl; simp
def isYes (K : Int) : Bool := decide (K = 2) || decide (K = 3)
def wrS (t : ByteArray) : WriteD :=
  if (spl 61 [] t.data.toList).length = 2 then ⟨⟨((spl 61 [] t.data.toList).getD 0 []).toArray⟩, ⟨((spl 61 [] t.data.toList).getD 1 []).toArray⟩, false⟩
  else if 0 < t.size then ⟨⟨(t.data.toList.take (t.size - 1)).toArray⟩, ⟨#[]⟩, true⟩ else ⟨⟨((spl 61 [] t.data.toList).getD 0 []).toArray⟩, ⟨#[]⟩, false⟩
def wrI (t : ByteArray) : WriteD :=
  bif (cut t.data.toList [61]).2.2 then ⟨⟨(cut t.data.toList [61]).1.toArray⟩, ⟨(cut t.data.toList [61]).2.1.toArray⟩, false⟩ else ⟨⟨(trimSuffix t.data.toList [45]).toArray⟩, ⟨(cut t.data.toList [61]).2.1.toArray⟩, true⟩
/-- spec.l4Word -/
def stepS (r : RecD) (s : ByteArray) : RecD :=
  if s = ⟨#[]⟩ then r
  else if s.data.toList.head? = some 64 then { r with Time := readD (tl s).data.toList, Yes := isYes r.Kind }
  else if s.data.toList.head? = some 62 then { r with Lead := readD (tl s).data.toList }
  else if s.data.toList.head? = some 63 then { r with Reads := r.Reads ++ [tl s] }
  else if s.data.toList.head? = some 33 then { r with Writes := r.Writes ++ [wrS (tl s)] }
  else r
/-- impl's readWord -/
def stepI (r : RecD) (s : ByteArray) : Option RecD :=
  if s = ⟨#[110, 111]⟩ then some r
  else if s = ⟨#[]⟩ then none
  else if s.data.toList.head? = some 64 then bif (readI (tl s).data.toList 1 100000).2 then some { r with Time := (readI (tl s).data.toList 1 100000).1, Yes := isYes r.Kind } else none
  else if s.data.toList.head? = some 62 then bif (readI (tl s).data.toList 0 3).2 then some { r with Lead := (readI (tl s).data.toList 0 3).1 } else none
  else if s.data.toList.head? = some 63 then some { r with Reads := r.Reads ++ [tl s] }
  else if s.data.toList.head? = some 33 then some { r with Writes := r.Writes ++ [wrI (tl s)] }
  else bif (readI s.data.toList 1 60).2 then some { r with Txn := (readI s.data.toList 1 60).1 } else none
/-- The kind at spec: the last word that fits. -/
def kindR (w : ByteArray) : Int := if w = wordB 4 then 4 else if w = wordB 3 then 3 else if w = wordB 2 then 2 else if w = wordB 1 then 1 else 0
def wordBs : List ByteArray := [⟨#[]⟩, wordB 1, wordB 2, wordB 3, wordB 4]
def zeroR (K : Int) : RecD := ⟨K, 0, 0, 0, [], [], false⟩
/-- Whether spec takes the transaction's number. -/
def takes (K : Int) (l : List ByteArray) : Prop := 0 < K ∧ K ≠ 4 ∧ 0 < l.length
instance (K : Int) (l : List ByteArray) : Decidable (takes K l) := by unfold takes; infer_instance
def resS (ws : List ByteArray) : RecD :=
  let K := kindR (ws.getD 0 ⟨#[]⟩)
  if takes K (ws.drop 1) then ((ws.drop 1).drop 1).foldl stepS { zeroR K with Txn := readD ((ws.drop 1).getD 0 ⟨#[]⟩).data.toList } else (ws.drop 1).foldl stepS (zeroR K)
def foldI (r : RecD) : List ByteArray → Option RecD
  | [] => some r
  | s :: l => match stepI r s with | some r' => foldI r' l | none => none
def resI (ws : List ByteArray) : Option RecD := foldI (zeroR (idxOfS wordBs (ws.getD 0 ⟨#[]⟩))) (ws.drop 1)

theorem kindR_word {K : Int} (h : K = 1 ∨ (K = 2 ∨ K = 3) ∨ K = 4) : kindR (wordB K) = K := by
  rcases h with rfl | (rfl | rfl) | rfl <;> decide
theorem idx_wordB {K : Int} (h : K = 1 ∨ (K = 2 ∨ K = 3) ∨ K = 4) : idxOfS wordBs (wordB K) = K := by
  rcases h with rfl | (rfl | rfl) | rfl <;> decide
theorem cat_ne (c : UInt8) (s t : ByteArray) (h : t.data.toList.head? ≠ some c) : cat c s ≠ t := fun e => by
  rw [← e, cat_list] at h
  exact h rfl
theorem tl_cat (c : UInt8) (s : ByteArray) : tl (cat c s) = s := bytesInj (by rw [tl_list, cat_list]; rfl)
theorem head_cat (c : UInt8) (s : ByteArray) : (cat c s).data.toList.head? = some c := by rw [cat_list]; rfl
theorem stepS_cat (r : RecD) (c : UInt8) (s : ByteArray) : stepS r (cat c s) = if c = 64 then { r with Time := readD s.data.toList, Yes := isYes r.Kind } else if c = 62 then { r with Lead := readD s.data.toList } else if c = 63 then { r with Reads := r.Reads ++ [s] } else if c = 33 then { r with Writes := r.Writes ++ [wrS s] } else r := by
  unfold stepS
  rw [if_neg (cat_ne c s _ (by simp)), head_cat, tl_cat]
  simp only [Option.some.injEq]
theorem stepI_cat (r : RecD) (c : UInt8) (s : ByteArray) (h : c ≠ 110) : stepI r (cat c s) = if c = 64 then bif (readI s.data.toList 1 100000).2 then some { r with Time := (readI s.data.toList 1 100000).1, Yes := isYes r.Kind } else none
    else if c = 62 then bif (readI s.data.toList 0 3).2 then some { r with Lead := (readI s.data.toList 0 3).1 } else none
    else if c = 63 then some { r with Reads := r.Reads ++ [s] } else if c = 33 then some { r with Writes := r.Writes ++ [wrI s] } else bif (readI (cat c s).data.toList 1 60).2 then some { r with Txn := (readI (cat c s).data.toList 1 60).1 } else none := by
  unfold stepI
  rw [if_neg (cat_ne c s _ (by simp; exact fun e => h e.symm)), if_neg (cat_ne c s _ (by simp)), head_cat, tl_cat]
  simp only [Option.some.injEq]

theorem spl_two {c : UInt8} {a b : List UInt8} (ha : Free c a) (hb : Free c b) : spl c [] (a ++ c :: b) = [a, b] := by
  rw [spl_free c a [] _ ha, List.nil_append, spl, if_pos rfl]
  have := spl_free c b [] [] hb
  rw [List.append_nil] at this
  rw [this]
  rfl
theorem spl_one {c : UInt8} {a : List UInt8} (ha : Free c a) : spl c [] a = [a] := by
  have := spl_free c a [] [] ha
  rw [List.append_nil] at this
  rw [this]
  rfl
theorem mk_list (s : ByteArray) : (⟨s.data.toList.toArray⟩ : ByteArray) = s := bytesInj (by simp)
theorem wr_back {x : WriteD} (h : (keyB x.Key && storedB x.Val x.Gone) = true) : ∃ t, wrW x = cat 33 t ∧ wrS t = x ∧ wrI t = x := by
  simp only [Bool.and_eq_true] at h
  obtain ⟨hk, hv⟩ := h
  have fk : Free 61 x.Key.data.toList := key_free hk rfl (by decide)
  have fv : Free 61 x.Val.data.toList := val_free hv rfl rfl
  refine ⟨_, rfl, ?_, ?_⟩
  · obtain ⟨K, V, G⟩ := x
    cases G
    · simp only [Bool.false_eq_true, if_false] at *
      have e : ((K ++ ⟨#[61]⟩) ++ V).data.toList = K.data.toList ++ 61 :: V.data.toList := by simp [ByteArray.data_append]
      unfold wrS
      rw [e, spl_two fk fv]
      simp [mk_list]
    · simp only [if_true] at *
      have e : (K ++ ⟨#[45]⟩).data.toList = K.data.toList ++ [45] := by simp [ByteArray.data_append]
      have e2 : (K ++ ⟨#[45]⟩).size = K.data.toList.length + 1 := by rw [ByteArray.size_append]; rfl
      have hv0 : V = ⟨#[]⟩ := by
        unfold storedB at hv
        simp only [Bool.not_true, Bool.false_or, Bool.and_eq_true, decide_eq_true_eq] at hv
        exact ByteArray.ext (Array.eq_empty_of_size_eq_zero hv.2)
      unfold wrS
      rw [e, e2, spl_one (free_app fk (free_cons (by decide) fun _ h => by cases h)), hv0]
      simp [mk_list]
  · obtain ⟨K, V, G⟩ := x
    cases G
    · simp only [Bool.false_eq_true, if_false] at *
      have e : ((K ++ ⟨#[61]⟩) ++ V).data.toList = K.data.toList ++ (([61] : List UInt8) ++ V.data.toList) := by simp [ByteArray.data_append]
      have hi := index_clean 61 [] V.data.toList K.data.toList fk
      unfold wrI cut
      have hd : (K.data.toList ++ (([61] : List UInt8) ++ V.data.toList)).drop (K.data.toList.length + 1) = V.data.toList := by
        rw [← List.append_assoc, List.drop_append_of_le_length (by simp), List.drop_of_length_le (by simp)]
        rfl
      rw [e, hi, if_pos (by omega)]
      show (⟨⟨(List.take (Int.toNat _) _).toArray⟩, ⟨(List.drop (Int.toNat _ + 1) _).toArray⟩, false⟩ : WriteD) = _
      rw [Int.toNat_natCast, hd, List.take_left, mk_list, mk_list]
    · simp only [if_true] at *
      have e : (K ++ ⟨#[45]⟩).data.toList = K.data.toList ++ [45] := by simp [ByteArray.data_append]
      have hv0 : V = ⟨#[]⟩ := by
        unfold storedB at hv
        simp only [Bool.not_true, Bool.false_or, Bool.and_eq_true, decide_eq_true_eq] at hv
        exact ByteArray.ext (Array.eq_empty_of_size_eq_zero hv.2)
      have hi := index_free 61 [] (K.data.toList ++ [45]) (free_app fk (free_cons (by decide) fun _ h => by cases h))
      unfold wrI cut trimSuffix hasSuffix
      rw [e, hi, if_neg (by omega), hv0]
      simp [mk_list]

theorem foldS_reads (rs : List ByteArray) : ∀ (r : RecD) (l : List ByteArray), (rs.map (cat 63) ++ l).foldl stepS r = l.foldl stepS { r with Reads := r.Reads ++ rs } := by
  induction rs with
  | nil => intro r l; simp
  | cons s rs ih =>
    intro r l
    show (rs.map (cat 63) ++ l).foldl stepS (stepS r (cat 63 s)) = _
    rw [stepS_cat, ih]
    simp
theorem foldS_writes (ws : List WriteD) : ∀ (r : RecD), (∀ y ∈ ws, (keyB y.Key && storedB y.Val y.Gone) = true) → (ws.map wrW).foldl stepS r = { r with Writes := r.Writes ++ ws } := by
  induction ws with
  | nil => intro r _; simp
  | cons y ws ih =>
    intro r h
    obtain ⟨t, e1, e2, _⟩ := wr_back (h y (List.mem_cons_self ..))
    show (ws.map wrW).foldl stepS (stepS r (wrW y)) = _
    rw [e1, stepS_cat, ih _ fun z hz => h z (List.mem_cons_of_mem _ hz)]
    simp [e2]
theorem foldI_cons (r : RecD) (s : ByteArray) (l : List ByteArray) {r' : RecD} (h : stepI r s = some r') : foldI r (s :: l) = foldI r' l := by
  show (match stepI r s with | some r' => foldI r' l | none => none) = _
  rw [h]
theorem foldI_reads (rs : List ByteArray) : ∀ (r : RecD) (l : List ByteArray), foldI r (rs.map (cat 63) ++ l) = foldI { r with Reads := r.Reads ++ rs } l := by
  induction rs with
  | nil => intro r l; simp
  | cons s rs ih =>
    intro r l
    show foldI r (cat 63 s :: (rs.map (cat 63) ++ l)) = _
    rw [foldI_cons r _ _ (stepI_cat r 63 s (by decide)), ih]
    simp
theorem foldI_writes (ws : List WriteD) : ∀ (r : RecD), (∀ y ∈ ws, (keyB y.Key && storedB y.Val y.Gone) = true) → foldI r (ws.map wrW) = some { r with Writes := r.Writes ++ ws } := by
  induction ws with
  | nil => intro r _; simp [foldI]
  | cons y ws ih =>
    intro r h
    obtain ⟨t, e1, _, e2⟩ := wr_back (h y (List.mem_cons_self ..))
    have e3 : stepI r (wrW y) = some { r with Writes := r.Writes ++ [y] } := by rw [e1, stepI_cat r 33 t (by decide), e2]; rfl
    show foldI r (wrW y :: ws.map wrW) = _
    rw [foldI_cons r _ _ e3, ih _ fun z hz => h z (List.mem_cons_of_mem _ hz)]
    simp

theorem readI_num {n : Nat} {lo hi : Int} (h : n ≤ 999999) (h1 : lo ≤ n) (h2 : (n : Int) ≤ hi) : readI (numT n).data.toList lo hi = ((n : Int), true) := by
  have e : (numT n).data.toList = itoa (n : Int) := by rw [itoa_nonneg]; unfold numT; simp
  rw [e]
  unfold readI
  rw [atoi_itoa (by omega) (by omega)]
  simp [h1, h2]
theorem readD_num {n : Nat} (h : n ≤ 999999) : readD (numT n).data.toList = (n : Int) := by
  have e : (numT n).data.toList = decDigits n := by unfold numT; simp
  rw [e, readD_dec h]
theorem stepS_time (r : RecD) (n : Nat) (h : n ≤ 999999) (h0 : r.Time = 0) (hy : r.Yes = false) : stepS r (if 0 < n then cat 64 (numT n) else ⟨#[110, 111]⟩) = { r with Time := n, Yes := decide (0 < n) && isYes r.Kind } := by
  by_cases hn : 0 < n
  · rw [if_pos hn, stepS_cat, if_pos rfl, readD_num h]
    simp [hn]
  · rw [if_neg hn]
    obtain rfl : n = 0 := by omega
    show r = _
    obtain ⟨a, b, c, d, e, f, g⟩ := r
    dsimp only at h0 hy
    subst h0 hy
    rfl
theorem stepI_time (r : RecD) (n : Nat) (h : n ≤ 100000) (h0 : r.Time = 0) (hy : r.Yes = false) : stepI r (if 0 < n then cat 64 (numT n) else ⟨#[110, 111]⟩) = some { r with Time := n, Yes := decide (0 < n) && isYes r.Kind } := by
  by_cases hn : 0 < n
  · rw [if_pos hn, stepI_cat r 64 _ (by decide), if_pos rfl, readI_num (by omega) (by omega) (by omega)]
    simp [hn]
  · rw [if_neg hn]
    obtain rfl : n = 0 := by omega
    show some r = _
    obtain ⟨a, b, c, d, e, f, g⟩ := r
    dsimp only at h0 hy
    subst h0 hy
    rfl
theorem numT_head {n : Nat} : ∀ c, (numT n).data.toList.head? = some c → 48 ≤ c.toNat ∧ c.toNat ≤ 57 := fun c h => decDig n c (by
  have e : (numT n).data.toList = decDigits n := by unfold numT; simp
  rw [e] at h
  exact List.mem_of_mem_head? h)
theorem stepI_txn (r : RecD) (n : Nat) (h1 : 1 ≤ n) (h : n ≤ 60) : stepI r (numT n) = some { r with Txn := n } := by
  have hd : ∀ c : UInt8, (c.toNat < 48 ∨ 57 < c.toNat) → (numT n).data.toList.head? ≠ some c := fun c hc e => by have := numT_head c e; omega
  unfold stepI
  rw [if_neg (fun e => hd 110 (by decide) (by rw [e]; rfl)), if_neg (fun e => by
    have := decDigits_ne n
    have e2 : (numT n).data.toList = decDigits n := by unfold numT; simp
    rw [← e2, e] at this
    exact this rfl), if_neg (hd 64 (by decide)), if_neg (hd 62 (by decide)), if_neg (hd 63 (by decide)), if_neg (hd 33 (by decide)), readI_num (by omega) (by omega) (by omega)]
  rfl

end Go.Proofs.YtpiheobpobclgaaGreatDoor
