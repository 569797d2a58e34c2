/- Plain lemmas and contracts that all proofs of this seat lean on: bundle Putb. -/
import Derived.Test.YtkcidneefdaaiaaGcopy
import Derived.Test.YtkcidneefdaaiaaLogg
import Derived.Test.YtkcidneefdaaiaaGoodr
import Derived.Test.YtkcidneefdaaiaaRowd
import Derived.Test.YtkcidneefdaaiaaKit
import Derived.Deep.RegionLawGrows
/- The leader's log takes an entry: what PutEntry gives. -/
namespace Go.Proofs.Ytkcidneefdaaiaa
open Go.RowKit

def putL (l : List ReplicaD) (term lead : Int) (r : RecD) : List ReplicaD := match l[lead.toNat]? with
  | some x => l.set lead.toNat { x with Log := x.Log ++ [⟨term, r⟩] }
  | none => l
theorem putL_nat {l : List ReplicaD} {m : Nat} (h : m < l.length) (term : Int) (r : RecD) : putL l term (m : Int) r = l.set m { l[m] with Log := l[m].Log ++ [⟨term, r⟩] } := by
  unfold putL
  rw [Int.toNat_natCast, List.getElem?_eq_getElem h]

def putOk (l : List ReplicaD) (lead : Int) : Bool := decide (0 ≤ lead) && match l[lead.toNat]? with
  | some x => decide (x.Log.length < 60)
  | none => false
theorem putOk_nat {l : List ReplicaD} {m : Nat} (h : m < l.length) : putOk l (m : Int) = decide (l[m].Log.length < 60) := by
  unfold putOk
  rw [Int.toNat_natCast, List.getElem?_eq_getElem h, decide_eq_true (by omega : (0 : Int) ≤ (m : Int))]
  rfl
theorem putOk_neg {l : List ReplicaD} {lead : Int} (h : lead < 0) : putOk l lead = false := by
  unfold putOk
  rw [decide_eq_false (by omega)]
  rfl

/-- The leader of a valid group. -/
theorem good_lead {l : List ReplicaD} {term lead : Int} (h : goodGB l term lead = true) (h0 : ¬ lead < 0) : ∃ m : Nat, lead = (m : Int) ∧ ∃ hm : m < l.length, l[m].Log.length ≤ 60 := by
  obtain ⟨_, _, h3, h4⟩ := (goodG_iff (g := ⟨l, term, lead⟩)).1 h
  dsimp only at h3 h4
  rcases h4 with h4 | ⟨L, x, h4, h5, _⟩
  · omega
  · obtain ⟨hm, rfl⟩ := List.getElem?_eq_some_iff.1 h5
    exact ⟨L, h4, hm, (h3 _ (List.getElem_mem hm)).1.1⟩

theorem sumC_set_le {α : Type} (f : α → Nat) (d : Nat) : ∀ (l : List α) (k : Nat) (x : α), (∀ hk : k < l.length, f x ≤ f l[k] + d) → sumC f (l.set k x) ≤ sumC f l + d
  | [], _, _, _ => by simp [sumC]
  | a :: l, 0, x, h => by
    have := h (by simp)
    simp only [List.getElem_cons_zero] at this
    simp [sumC]
    omega
  | a :: l, k + 1, x, h => by
    have := sumC_set_le f d l k x (fun hk => by have := h (by simpa using hk); simpa using this)
    simp [sumC] at this ⊢
    omega

theorem putL_cost (l : List ReplicaD) (term lead : Int) (r : RecD) : costReplicaS (putL l term lead r) ≤ costReplicaS l + costRec r + 1 := by
  unfold putL
  split
  · rename_i x hx
    obtain ⟨hk, hx'⟩ := List.getElem?_eq_some_iff.1 hx
    have := sumC_set_le costReplica (costRec r + 1) l lead.toNat { x with Log := x.Log ++ [⟨term, r⟩] } (fun _ => by
      rw [hx']
      simp [costReplica, costEntryS, costEntry, costRec, sumC]
      omega)
    unfold costReplicaS
    rw [List.length_set]
    omega
  · omega

end Go.Proofs.Ytkcidneefdaaiaa


/- What is good is small. -/
namespace Go.Proofs.Ytkcidneefdaaiaa
open Go.RowKit

theorem sumC_bound {α : Type} (f : α → Nat) (d : Nat) : ∀ (l : List α), (∀ k (h : k < l.length), f l[k] ≤ d) → sumC f l ≤ l.length * d
  | [], _ => by simp [sumC]
  | a :: l, h => by
    have h0 := h 0 (by simp)
    have h1 := sumC_bound f d l (fun k hk => by have := h (k + 1) (by simpa using hk); simpa using this)
    simp only [List.getElem_cons_zero] at h0
    have e : (l.length + 1) * d = l.length * d + d := Nat.succ_mul _ _
    simp [sumC] at h1 ⊢
    omega

theorem keyB_size {s : ByteArray} (h : keyB s = true) : s.size ≤ 12 := by
  unfold keyB at h
  rw [Bool.and_eq_true, inB_iff] at h
  omega

theorem storedB_size {s : ByteArray} {b : Bool} (h : storedB s b = true) : s.size ≤ 24 := by
  unfold storedB valB at h
  simp only [Bool.and_eq_true, decide_eq_true_eq] at h
  exact h.1.1

theorem goodRB_cost {r : RecD} (h : goodRB r = true) : costRec r ≤ 400 := by
  have bare : ∀ {L : Int}, bareB L r.Reads.length r.Writes.length = true → costRec r ≤ 400 := fun h => by
    unfold bareB at h
    simp only [Bool.and_eq_true, decide_eq_true_eq] at h
    have h1 : r.Reads = [] := List.eq_nil_of_length_eq_zero h.2.1
    have h2 : r.Writes = [] := List.eq_nil_of_length_eq_zero h.2.2
    unfold costRec costStringS costWriteS
    rw [h1, h2]
    simp [sumC]
  rcases rec_kinds r.Kind with k | k | k | k
  · rw [goodRB_1 k] at h
    unfold prepB at h
    simp only [Bool.and_eq_true, decide_eq_true_eq, pB_iff] at h
    obtain ⟨_, _, _, h1, h2, h3, h4, _, _⟩ := h
    unfold goodWB at h4
    simp only [Bool.and_eq_true, decide_eq_true_eq, pB_iff, Bool.not_eq_true'] at h4
    obtain ⟨_, h5, h6⟩ := h4
    have s1 := sumC_bound (fun s => s.size) 12 r.Reads (fun k hk => keyB_size (h2 k hk hk).1)
    have s2 := sumC_bound costWrite 36 r.Writes (fun k hk => by
      have a1 := keyB_size (h5 k (by simpa using hk) (by simpa using hk)).1
      have a2 : badStored r.Writes[k] = false := by simpa using List.any_eq_false.1 h6 _ (List.getElem_mem hk)
      unfold badStored at a2
      have a3 := storedB_size (s := r.Writes[k].Val) (b := r.Writes[k].Gone) (by simpa using a2)
      simp only [List.getElem_map] at a1
      unfold costWrite
      omega)
    unfold costRec costStringS costWriteS
    have e1 : r.Reads.length * 12 ≤ 8 * 12 := Nat.mul_le_mul_right _ h1
    have e2 : r.Writes.length * 36 ≤ 8 * 36 := Nat.mul_le_mul_right _ h3
    omega
  · rw [goodRB_2 k] at h
    unfold doneB at h
    rw [Bool.and_eq_true] at h
    exact bare h.1
  · rw [goodRB_4 k] at h
    unfold floorB at h
    rw [Bool.and_eq_true] at h
    exact bare h.1
  · rw [goodRB_no k] at h
    cases h

theorem goodGB_cost {l : List ReplicaD} {term lead : Int} (h : goodGB l term lead = true) : costReplicaS l ≤ 200000 := by
  obtain ⟨h1, _, h3, _⟩ := (goodG_iff (g := ⟨l, term, lead⟩)).1 h
  dsimp only at h1 h3
  have s1 := sumC_bound costReplica 24060 l (fun k hk => by
    obtain ⟨g1, _, _⟩ := h3 _ (List.getElem_mem hk)
    have s2 := sumC_bound costEntry 400 l[k].Log (fun j hj => goodRB_cost (g1.2 j hj hj).2.1)
    have e : l[k].Log.length * 400 ≤ 60 * 400 := Nat.mul_le_mul_right _ g1.1
    have := g1.1
    unfold costReplica costEntryS
    omega)
  have e : l.length * 24060 ≤ 5 * 24060 := Nat.mul_le_mul_right _ (by omega)
  unfold costReplicaS
  omega

theorem put_log_cost {l : List ReplicaD} {term lead : Int} {r : RecD} (h : goodGB l term lead = true) (hr : goodRB r = true) {m : Nat} (hm : m < l.length) : costEntryS (l[m].Log ++ [⟨term, r⟩]) ≤ 1048576 := by
  have h1 := goodGB_cost h
  have h2 := goodRB_cost hr
  have h3 := sumC_get costReplica l m hm
  unfold costReplicaS at h1
  have h4 : costEntryS (l[m].Log ++ [⟨term, r⟩]) = costReplica l[m] + (costRec r + 1) := by
    simp [costReplica, costEntryS, costEntry, costRec, sumC]
    omega
  omega

theorem mk_entryR {w : World} {r : RecD} {term : Int} (ht : I64 term) (i0 : I64 r.Kind) (i1 : I64 r.Txn) (i2 : I64 r.Time) (i3 : I64 r.Lead) {a b : Value} {fa fb : List Nat} (ra : Cod.rdS Cod.str w a r.Reads fa) (rb : Cod.rdS Cod.write w b r.Writes fb) :
    Cod.entry.rd w (lst [.int .i64 term, .int .i64 r.Kind, .int .i64 r.Txn, .int .i64 r.Time, .int .i64 r.Lead, a, b, .bool r.Yes]) ⟨term, r⟩ (fa ++ fb) :=
  ⟨[], _, rfl, ⟨rfl, ht, rfl⟩, [], _, rfl, ⟨rfl, i0, rfl⟩, [], _, rfl, ⟨rfl, i1, rfl⟩, [], _, rfl, ⟨rfl, i2, rfl⟩, [], _, rfl, ⟨rfl, i3, rfl⟩, fa, fb, rfl, ⟨a, rfl, ra⟩, fb, [], (List.append_nil _).symm, ⟨b, rfl, rb⟩, rfl, trivial, rfl⟩

theorem put_cost (l : List ReplicaD) (term lead : Int) (r : RecD) (q : Bool) : costGroup (pickG (goodGB l term lead && q && goodRB r) ⟨putL l term lead r, term, lead⟩) ≤ 1048576 := by
  generalize hg : goodGB l term lead = a
  generalize hr : goodRB r = b
  cases a
  · show costReplicaS [] ≤ _
    unfold costReplicaS
    simp [sumC]
  cases q
  · show costReplicaS [] ≤ _
    unfold costReplicaS
    simp [sumC]
  cases b
  · show costReplicaS [] ≤ _
    unfold costReplicaS
    simp [sumC]
  · have h1 := putL_cost l term lead r
    have h2 := goodRB_cost hr
    have h3 := goodGB_cost hg
    show costReplicaS (putL l term lead r) ≤ _
    omega

end Go.Proofs.Ytkcidneefdaaiaa


/- The log of one replica in a row of the call's own is laid anew. -/
namespace Go.Proofs.Ytkcidneefdaaiaa
open Go.RowKit

theorem flatten_set {fs : List (List Nat)} {k : Nat} {f f' : List Nat} (h : fs[k]? = some f) : ∃ A B : List Nat, fs.flatten = A ++ (f ++ B) ∧ (fs.set k f').flatten = A ++ (f' ++ B) := by
  obtain ⟨hk, rfl⟩ := List.getElem?_eq_some_iff.1 h
  refine ⟨(fs.take k).flatten, (fs.drop (k + 1)).flatten, ?_, ?_⟩
  · have e : fs = fs.take k ++ fs[k] :: fs.drop (k + 1) := by rw [← List.drop_eq_getElem_cons hk, List.take_append_drop]
    exact (congrArg List.flatten e).trans (by rw [List.flatten_append, List.flatten_cons])
  · rw [List.set_eq_take_append_cons_drop, if_pos hk]
    simp

theorem nodup_swap {A f f' B : List Nat} (h : (A ++ (f ++ B)).Nodup) (h' : f'.Nodup) (hd : ∀ b ∈ f', b ∈ f ∨ b ∉ A ++ (f ++ B)) : (A ++ (f' ++ B)).Nodup := by
  obtain ⟨h1, h2, h3⟩ := List.nodup_append.1 h
  obtain ⟨h4, h5, h6⟩ := List.nodup_append.1 h2
  refine List.nodup_append.2 ⟨h1, List.nodup_append.2 ⟨h', h5, fun a ha b hb e => ?_⟩, fun a ha b hb e => ?_⟩
  · subst e
    rcases hd a ha with g | g
    · exact h6 a g a hb rfl
    · exact g (by simp [hb])
  · subst e
    rcases List.mem_append.1 hb with hb | hb
    · rcases hd a hb with g | g
      · exact h3 a ha a (by simp [g]) rfl
      · exact g (by simp [ha])
    · exact h3 a ha a (by simp [hb]) rfl

theorem elems_set2 {α : Type} {c : Cod α} {w w' : World} {b off : Nat} {xs : List α} {fs : List (List Nat)} (h : Cod.elems c w b off xs fs) (k : Nat) (hk : k < xs.length) (x' : α) (f' : List Nat)
    (hx : c.rd w' (cellsAt w' b (off + k * c.size)) x' f') (hcells : ∀ i, (i < off + k * c.size ∨ off + (k + 1) * c.size ≤ i) → w'.cell? ⟨b, i, none⟩ = w.cell? ⟨b, i, none⟩)
    (hfs : ∀ j, j ≠ k → ∀ f, fs[j]? = some f → ∀ d ∈ f, w'.heap[d]? = w.heap[d]?) : Cod.elems c w' b off (xs.set k x') (fs.set k f') := by
  have hl := Cod.elems_length c h
  refine Cod.elems_of c (by rw [List.length_set, List.length_set]; exact hl) fun j hj f hf => ?_
  have hjl : j < xs.length := by simpa using hj
  by_cases e : j = k
  · subst e
    rw [List.getElem?_set_self (by omega)] at hf
    injection hf with hf
    subst hf
    rw [List.getElem_set_self]
    exact hx
  · rw [List.getElem?_set_ne (fun h => e h.symm)] at hf
    rw [List.getElem_set_ne (fun h => e h.symm)]
    obtain ⟨f2, h1, h2⟩ := Cod.elems_at c h j hjl
    rw [hf] at h1
    injection h1 with h1
    subst h1
    refine c.ext (fun i hi => ?_) (c.frame (hfs j e f hf) h2)
    refine (hcells _ ?_).symm
    rcases Nat.lt_or_gt_of_ne e with g | g
    · have : (j + 1) * c.size ≤ k * c.size := Nat.mul_le_mul_right _ g
      rw [Nat.add_mul] at this
      omega
    · have : (k + 1) * c.size ≤ j * c.size := Nat.mul_le_mul_right _ g
      omega

theorem own_logAt {w : World} {base g o n cap : Nat} {l : List ReplicaD} (h : Own Cod.replicaR w base (.slice (some ⟨g, o, none⟩) n cap) l) (k : Nat) (hk : k < l.length) :
    ∃ fp vL, Cod.rdR Cod.entry w vL l[k].Log fp ∧ Mine w base fp ∧ g ∉ fp ∧ (∀ b ∈ fp, b < w.heap.size) ∧ w.cell? ⟨g, o + k * 3 + 1, none⟩ = some vL ∧ w.frozen? ⟨g, o + k * 3 + 1, none⟩ = false ∧
      ∀ w' v' L' fp', Cod.rdR Cod.entry w' v' L' fp' → fp'.Nodup → (∀ b ∈ fp', base ≤ b ∧ (b ∈ fp ∨ w.heap.size ≤ b)) → (∀ b ∈ fp', ∀ i, w'.frozen? ⟨b, i, none⟩ = false) → (∀ b, base ≤ b → b < w.heap.size → b ∉ fp → w'.heap[b]? = w.heap[b]?) →
        w.heap.size ≤ w'.heap.size → Own Cod.replicaR (w'.setCell ⟨g, o + k * 3 + 1, none⟩ v') base (.slice (some ⟨g, o, none⟩) n cap) (l.set k { l[k] with Log := L' }) := by
  obtain ⟨fp, ⟨a, cap', e, h1, h2, h3, h4⟩, m⟩ := h
  injection e with e1 e2 e3
  subst e1 e2 e3
  rcases h4 with ⟨rfl, _⟩ | ⟨b', off, fs, e, rfl, hb, he⟩
  · simp at hk
  injection e with e
  injection e with e1 e2
  subst e1 e2
  obtain ⟨f, hf, hr⟩ := Cod.elems_at _ he k hk
  obtain ⟨f1, f2, e, ⟨q0, _, e1⟩, f3, f4, e2, ⟨vL, hv, hR⟩, q3⟩ := hr
  obtain ⟨q3, q4, e4⟩ := q3
  subst e1 e4
  rw [List.nil_append] at e
  rw [List.append_nil] at e2
  subst e e2
  have hv' : w.cell? ⟨g, o + k * 3 + (1 + 0), none⟩ = some vL := hv
  have q0' : w.cell? ⟨g, o + k * 3 + 0, none⟩ = some (.bool l[k].Up) := q0
  have q3' : w.cell? ⟨g, o + k * 3 + (1 + (1 + 0)), none⟩ = some (.int .i64 l[k].Sure) := q3
  have hgn : g ∉ fs.flatten := (List.nodup_cons.1 m.nodup).1
  have hin : ∀ d ∈ f, d ∈ fs.flatten := fun d hd => List.mem_flatten.2 ⟨f, List.mem_of_getElem? hf, hd⟩
  obtain ⟨A, B, hA, _⟩ := flatten_set (f' := f) hf
  have hn : (A ++ (f ++ B)).Nodup := hA ▸ (List.nodup_cons.1 m.nodup).2
  refine ⟨f, vL, hR, ⟨(List.nodup_append.1 (List.nodup_append.1 hn).2.1).1, fun d hd => m.low d (by simp [hin d hd]), fun d hd => m.free d (by simp [hin d hd])⟩, fun hd => hgn (hin g hd), Cod.rdS_old _ (Cod.rdR_rdS hR), hv', m.free g (by simp) _, ?_⟩
  intro w' v' L' fp' hR' hnd hlow hfz hold hsz
  have hfs : ∀ j, j ≠ k → ∀ f2, fs[j]? = some f2 → ∀ d ∈ f2, d ∉ f := fun j hj f2 hf2 d hd hd' => by
    obtain ⟨hj1, rfl⟩ := List.getElem?_eq_some_iff.1 hf2
    obtain ⟨hk1, rfl⟩ := List.getElem?_eq_some_iff.1 hf
    have hp := (List.pairwise_flatten.1 (List.nodup_cons.1 m.nodup).2).2
    rcases Nat.lt_or_gt_of_ne hj with g1 | g1
    · exact (List.pairwise_iff_getElem.1 hp j k hj1 hk1 g1) d hd d hd' rfl
    · exact (List.pairwise_iff_getElem.1 hp k j hk1 hj1 g1) d hd' d hd rfl
  have hlt : ∀ d ∈ fs.flatten, d < w.heap.size := fun d hd => by
    obtain ⟨f2, hf2, hd2⟩ := List.mem_flatten.1 hd
    obtain ⟨j, hj, rfl⟩ := List.mem_iff_getElem.1 hf2
    obtain ⟨f3, g1, g2⟩ := Cod.elems_at _ he j (by rw [← Cod.elems_length _ he]; exact hj)
    rw [List.getElem?_eq_getElem hj] at g1
    injection g1 with g1
    subst g1
    exact Cod.replicaR.old g2 d hd2
  have hgw : w'.heap[g]? = w.heap[g]? := hold g (m.low g (by simp)) hb (fun hd => hgn (hin g hd))
  have hcw : ∀ i, w'.cell? ⟨g, i, none⟩ = w.cell? ⟨g, i, none⟩ := fun i => World.cell?_of_block (a := ⟨g, i, none⟩) hgw
  have hoth : ∀ d, d ≠ g → (w'.setCell ⟨g, o + k * 3 + 1, none⟩ v').heap[d]? = w'.heap[d]? := fun d hd => heap_setCell_other w' ⟨g, o + k * 3 + 1, none⟩ d v' hd
  have hgp : ∀ d ∈ fp', d ≠ g := fun d hd e => by
    subst e
    rcases (hlow d hd).2 with h | h
    · exact hgn (hin d h)
    · omega
  have hcs : ∀ i, i ≠ o + k * 3 + 1 → (w'.setCell ⟨g, o + k * 3 + 1, none⟩ v').cell? ⟨g, i, none⟩ = w.cell? ⟨g, i, none⟩ := fun i hi => (World.cell?_setCell_other _ _ _ _ (fun e => hi (congrArg Addr.off e).symm)).trans (hcw i)
  have hdj : ∀ d ∈ fp', d ∈ f ∨ d ∉ A ++ (f ++ B) := fun d hd => by
    rcases (hlow d hd).2 with h | h
    · exact Or.inl h
    · refine Or.inr fun hd' => ?_
      rw [← hA] at hd'
      have := hlt d hd'
      omega
  obtain ⟨A2, B2, hA2, hB2⟩ := flatten_set (f' := fp') hf
  have hmem : ∀ d ∈ (fs.set k fp').flatten, d ∈ fp' ∨ (d ∈ fs.flatten ∧ d ∉ f) := fun d hd => by
    obtain ⟨f2, hf2, hd2⟩ := List.mem_flatten.1 hd
    obtain ⟨j, hj, rfl⟩ := List.mem_iff_getElem.1 hf2
    by_cases e : j = k
    · subst e
      rw [List.getElem_set_self] at hd2
      exact Or.inl hd2
    · rw [List.getElem_set_ne (fun h => e h.symm)] at hd2
      have hj' : j < fs.length := by simpa using hj
      exact Or.inr ⟨List.mem_flatten.2 ⟨_, List.getElem_mem hj', hd2⟩, hfs j e _ (List.getElem?_eq_getElem hj') d hd2⟩
  refine ⟨g :: (fs.set k fp').flatten, ⟨_, cap, by rw [List.length_set], by rw [List.length_set]; exact h1, h2, h3, Or.inr ⟨g, o, fs.set k fp', rfl, rfl, by simp [World.setCell]; omega, elems_set2 he k hk _ fp' ?_ (fun i hi => ?_) (fun j hj f2 hf2 d hd => ?_)⟩⟩, ?_⟩
  · refine ⟨[], fp', rfl, ⟨?_, trivial, rfl⟩, fp', [], (List.append_nil _).symm, ⟨v', ?_, Cod.rdR_frame _ (fun d hd => hoth d (hgp d hd)) hR'⟩, ?_, q4, rfl⟩
    · exact (hcs (o + k * 3 + 0) (by omega)).trans q0'
    · show (w'.setCell ⟨g, o + k * 3 + 1, none⟩ v').cell? ⟨g, o + k * 3 + (1 + 0), none⟩ = some v'
      exact World.cell?_setCell_same _ _ _ ((hcw _).trans hv')
    · exact (hcs (o + k * 3 + (1 + (1 + 0))) (by omega)).trans q3'
  · refine hcs i (fun e => ?_)
    have hs : Cod.replicaR.size = 3 := rfl
    rw [hs, Nat.add_mul] at hi
    omega
  · have hdm : d ∈ fs.flatten := List.mem_flatten.2 ⟨f2, List.mem_of_getElem? hf2, hd⟩
    exact (hoth d (fun e => hgn (e ▸ hdm))).trans (hold d (m.low d (by simp [hdm])) (hlt d hdm) (hfs j hj f2 hf2 d hd))
  · refine ⟨List.nodup_cons.2 ⟨fun hd => ?_, ?_⟩, fun d hd => ?_, fun d hd i => ?_⟩
    · rcases hmem g hd with h | h
      · exact hgp g h rfl
      · exact hgn h.1
    · rw [hB2]
      exact nodup_swap (hA2 ▸ (List.nodup_cons.1 m.nodup).2) hnd (fun d hd => by
        rcases hdj d hd with h | h
        · exact Or.inl h
        · exact Or.inr (by rw [← hA2, hA]; exact h))
    · rcases List.mem_cons.1 hd with rfl | hd
      · exact m.low _ (by simp)
      · rcases hmem d hd with h | h
        · exact (hlow d h).1
        · exact m.low d (by simp [h.1])
    · rw [World.frozen?_setCell]
      rcases List.mem_cons.1 hd with rfl | hd
      · rw [World.frozen?_of_block (a := ⟨d, i, none⟩) hgw]
        exact m.free _ (by simp) i
      · rcases hmem d hd with h | h
        · exact hfz d h i
        · rw [World.frozen?_of_block (a := ⟨d, i, none⟩) (hold d (m.low d (by simp [h.1])) (hlt d h.1) h.2)]
          exact m.free d (by simp [h.1]) i

end Go.Proofs.Ytkcidneefdaaiaa


/- An append of one element to a row whose room is known: in place, or in a new row. Plain lemmas over any program. -/
namespace Go.Proofs.Ytkcidneefdaaiaa
open Go.RowKit
variable {P : Program} {α : Type} {c : Cod α} {ops : Array Oper} {o : Oper} {a : Act} {Q : Exit → Act → World → Prop}

theorem heap_setCells_same (b : Nat) (e : TypeId) (fr : Nat × Nat) : ∀ (vs : List Value) (o : Nat) (w : World) (cur : Array Value), w.heap[b]? = some (.cells cur e fr) → ∃ cur', (w.setCells b o vs).heap[b]? = some (.cells cur' e fr) ∧ cur'.size = cur.size
  | [], _, _, cur, h => ⟨cur, h, rfl⟩
  | v :: r, o, w, cur, h => by
    have h1 : (w.setCell ⟨b, o, none⟩ v).heap[b]? = some (.cells (cur.setIfInBounds o v) e fr) := by
      simp [World.setCell, Array.getElem?_modify, h]
    obtain ⟨cur', h2, h3⟩ := heap_setCells_same b e fr r (o + 1) _ _ h1
    exact ⟨cur', h2, by simpa using h3⟩

theorem heap_setCells_else (b : Nat) {d : Nat} (hd : d ≠ b) : ∀ (vs : List Value) (o : Nat) (w : World), (w.setCells b o vs).heap[d]? = w.heap[d]?
  | [], _, _ => rfl
  | v :: r, o, w => (heap_setCells_else b hd r (o + 1) _).trans (heap_setCell_other w ⟨b, o, none⟩ d v hd)

theorem below_setCells {B b : Nat} (hb : B ≤ b) {W : World} : ∀ (vs : List Value) (o : Nat) (w : World), Below B W w → Below B W (w.setCells b o vs)
  | [], _, _, h => h
  | v :: r, o, _, h => below_setCells hb r (o + 1) _ (h.setCell hb v)

theorem elems_more {w w' : World} {b off g off' : Nat} {xs : List α} {fs : List (List Nat)} {y : α} {f : List Nat} {cs : List Value} (he : Cod.elems c w b off xs fs) (hfs : ∀ d ∈ fs.flatten, w'.heap[d]? = w.heap[d]?) (hf : ∀ d ∈ f, w'.heap[d]? = w.heap[d]?)
    (hrd : c.rd w (lst cs) y f) (hc : ∀ j, j < xs.length * c.size → w'.cell? ⟨g, off' + j, none⟩ = w.cell? ⟨b, off + j, none⟩) (hn : ∀ j, j < c.size → w'.cell? ⟨g, off' + xs.length * c.size + j, none⟩ = cs[j]?) :
    Cod.elems c w' g off' (xs ++ [y]) (fs ++ [f]) := by
  have hl := Cod.elems_length c he
  refine Cod.elems_of c (by simp [hl]) fun k hk f' hf' => ?_
  simp only [List.length_append, List.length_cons, List.length_nil] at hk
  by_cases hkx : k < xs.length
  · rw [List.getElem?_append_left (by omega)] at hf'
    rw [List.getElem_append_left hkx]
    obtain ⟨f2, h1, h2⟩ := Cod.elems_at c he k hkx
    rw [hf'] at h1
    injection h1 with h1
    subst h1
    refine c.ext (fun i hi => ?_) (c.frame (fun d hd => hfs d (List.mem_flatten.2 ⟨f', List.mem_of_getElem? hf', hd⟩)) h2)
    have := hc _ (idx_lt hkx hi)
    show w.cell? ⟨b, off + k * c.size + i, none⟩ = w'.cell? ⟨g, off' + k * c.size + i, none⟩
    rw [Nat.add_assoc, Nat.add_assoc, this]
  · have hke : k = xs.length := by omega
    subst hke
    rw [List.getElem?_append_right (by omega), hl, Nat.sub_self] at hf'
    simp only [List.getElem?_cons_zero, Option.some.injEq] at hf'
    subst hf'
    rw [List.getElem_append_right (Nat.le_refl _)]
    simp only [Nat.sub_self, List.getElem_cons_zero]
    exact c.ext (fun i hi => (hn i hi).symm) (c.frame hf hrd)

theorem step_append_rdR {K : Act → World → Prop} {E : Prop} (Wp : World) (hgd : o.guard = none) (s x : Operand) (t : TypeId) (ho : o.op = .call { callee := .builtin .append, args := #[s, x], argTypes := #[t, t] })
    (base : Nat) (e e' : TypeId) (i : TypeInfo) (z : Value) (bytes : Nat) (ht : P.underlying t = some (.slice e)) (hi : P.info? e = some i) (hz : i.zero = some z)
    (hsize : i.size = c.size) (hby : i.bytes = bytes) (hzs : z.cells.size = c.size) (hsz : 0 < c.size) (hbp : 0 < bytes)
    (v : Value) (xs : List α) (fp : List Nat) (hs : a.eval s = v) (hr : Cod.rdR c Wp v xs fp) (hm : Mine Wp base fp) (hB : base ≤ Wp.heap.size)
    (y : α) (f : List Nat) (cs : List Value) (hcl : cs.length = c.size) (hrd : c.rd Wp (lst cs) y f) (hdis : ∀ b ∈ f, b ∉ fp)
    (H : Nat) (hH : Wp.heap.size = H) (hx : a.eval x = .slice (some ⟨H, 0, none⟩) 1 1) (h1 : ∀ u ∈ cs, u.oneCell' = true)
    (hbytes : (xs.length + 1) * bytes ≤ room)
    (h : ∀ g off cap w' fpo, Cod.rdR c w' (.slice (some ⟨g, off, none⟩) (xs.length + 1) cap) (xs ++ [y]) (g :: (fpo ++ f)) → (fpo.Nodup ∧ (∀ b ∈ fpo, b ∈ fp) ∧ g ∉ fpo ∧ (g ∈ fp ∨ Wp.heap.size < g)) → (∀ b ∈ g :: fpo, ∀ i, w'.frozen? ⟨b, i, none⟩ = false) →
      Below base Wp w' → (∀ b, b < Wp.heap.size → b ∉ fp → w'.heap[b]? = Wp.heap[b]?) → K (a.put o.dst (.slice (some ⟨g, off, none⟩) (xs.length + 1) cap)) w') :
    if Region.wanted o (yielded ops a.tmps) = true then Oper.wp P o a (Wp.alloc (.cells cs.toArray e')) K Q else E := by
  subst hH
  have hold : ∀ b, b < Wp.heap.size → (Wp.alloc (.cells cs.toArray e')).heap[b]? = Wp.heap[b]? := fun b hb => Below.heap_alloc _ _ _ hb
  have hnew : ∀ j u, cs[j]? = some u → (Wp.alloc (.cells cs.toArray e')).cell? ((⟨Wp.heap.size, 0, none⟩ : Addr).add j) = some u := by
    intro j u hj
    rw [WideShapes.add_plain, Nat.zero_add, World.cell?_alloc_mark]
    simpa using hj
  have hfl : ∀ b ∈ f, b < Wp.heap.size := c.old hrd
  have hmax : xs.length + 1 ≤ maxLen := by
    have h2 : (xs.length + 1) * 1 ≤ (xs.length + 1) * bytes := Nat.mul_le_mul_left _ hbp
    unfold room at hbytes
    unfold maxLen
    omega
  have hrm : (xs.length + 1) * bytes ≤ 140737488355328 := by unfold room at hbytes; omega
  have grow : ∀ (ao : Option Addr) (b off cap : Nat) (fs : List (List Nat)) (olds : List Value), a.eval s = .slice ao xs.length cap → (ao = none → xs.length = 0 ∧ cap = 0) → olds.length = xs.length * c.size → (∀ b, ao = some b → ∀ j u, olds[j]? = some u → (Wp.alloc (.cells cs.toArray e')).cell? (b.add j) = some u) →
      Cod.elems c Wp b off xs fs → (∀ j, j < xs.length * c.size → olds[j]? = Wp.cell? ⟨b, off + j, none⟩) → cap < xs.length + 1 → (∀ d ∈ fs.flatten, d ∈ fp) → fs.flatten.Nodup → (∀ d ∈ fs.flatten, d < Wp.heap.size) →
      if Region.wanted o (yielded ops a.tmps) = true then Oper.wp P o a (Wp.alloc (.cells cs.toArray e')) K Q else E := by
    intro ao b off cap fs olds hs hno holl holc he hoc hcap hin hnd hlt
    refine step_append_grows hgd s x t ho e i z c.size bytes ht hi hz hsize hby hzs hsz ao xs.length cap olds hs hno holl holc ⟨Wp.heap.size, 0, none⟩ 1 1 cs hx (by omega) hnew h1 hcap hmax hrm ?_
    intro v' w' hown hg
    rcases own_forms hown with ⟨_, h0⟩ | ⟨g, cap', rfl⟩
    · omega
    · have hlt' := hown.lt g rfl
      have hgl : Wp.heap.size < g := by have := hlt'.1; simp at this; omega
      have hob : ∀ d, d < Wp.heap.size → w'.heap[d]? = Wp.heap[d]? := fun d hd => (hg.block d (by simp; omega) (fun e => by cases e)).trans (hold d hd)
      have hel : Cod.elems c w' g 0 (xs ++ [y]) (fs ++ [f]) := elems_more he (fun d hd => hob d (hlt d hd)) (fun d hd => hob d (hfl d hd)) hrd
        (fun j hj => by rw [Nat.zero_add, hown.cellAt j (by rw [Nat.add_mul]; omega), List.getElem?_append_left (by omega), hoc j hj])
        (fun j hj => by rw [Nat.zero_add, hown.cellAt _ (by rw [Nat.add_mul]; omega), List.getElem?_append_right (by omega), holl, Nat.add_sub_cancel_left])
      rcases hown.2 with ⟨e1, _⟩ | ⟨g2, cap2, cur, e1, _, hgb, hc1, hc2, hc3, _⟩
      · cases e1
      injection e1 with e1 e2 e3
      injection e1 with e1
      injection e1 with e1
      subst e1 e3
      refine h g 0 cap' w' fs.flatten (Or.inr ⟨g, 0, cap', fs ++ [f], cur, e, by simp, by simpa using hc1, hc2, by simp, hgb, by omega, hel⟩) ⟨hnd, hin, fun hd => by have := hlt _ hd; omega, Or.inr hgl⟩ (fun d hd i => by
        rcases List.mem_cons.1 hd with rfl | hd
        · exact hown.frozenAt i
        · exact (World.frozen?_of_block (a := ⟨d, i, none⟩) (hob d (hlt d hd))).trans (hm.free d (hin d hd) i)) ⟨hg.os, hg.tape, hg.output, Nat.le_trans (by simp) hg.size, fun d hd => hob d (by omega)⟩ (fun d hd _ => hob d hd)
  rcases hr with ⟨rfl, rfl, rfl⟩ | ⟨b, off, cap, fs, cur, e1, rfl, hc1, hc2, rfl, hhb, hsp, he⟩
  · exact grow none 0 0 0 [] [] hs (fun _ => ⟨rfl, rfl⟩) (by simp) (fun b hb => by cases hb) trivial (fun j hj => by simp at hj) (by simp) (fun d hd => by simp at hd) (by simp) (fun d hd => by simp at hd)
  · have hbl : b < Wp.heap.size := (Array.getElem?_eq_some_iff.1 hhb).1
    have hfo : ∀ d ∈ fs.flatten, d < Wp.heap.size := fun d hd => by
      obtain ⟨f', hf', hd'⟩ := List.mem_flatten.1 hd
      obtain ⟨k, hk, rfl⟩ := List.mem_iff_getElem.1 hf'
      obtain ⟨f2, g1, g2⟩ := Cod.elems_at c he k (by rw [← Cod.elems_length c he]; exact hk)
      rw [List.getElem?_eq_getElem hk] at g1
      injection g1 with g1
      subst g1
      exact c.old g2 d hd'
    have hnd := List.nodup_cons.1 hm.nodup
    have hcell : ∀ j, Wp.cell? ⟨b, j, none⟩ = cur[j]? := fun j => by simp [World.cell?, hhb]
    by_cases hroom : xs.length + 1 ≤ cap
    · have hspace : off + (xs.length + 1) * c.size ≤ cur.size := Nat.le_trans (Nat.add_le_add_left (Nat.mul_le_mul_right _ hroom) _) hsp
      rw [Nat.add_mul, Nat.one_mul] at hspace
      have hsome : ∀ j, j < cs.length → ((Wp.alloc (.cells cs.toArray e')).cell? ⟨b, off + xs.length * c.size + j, none⟩).isSome = true := fun j hj => by
        rw [cell_alloc_old hbl, hcell, Array.getElem?_eq_getElem (by omega)]
        rfl
      refine step_append_room hgd s x t ho e i c.size ht hi hsize b off xs.length cap hs ⟨Wp.heap.size, 0, none⟩ 1 1 cs hx (by omega) hnew h1 hroom (fun j hj => ⟨hsome j hj, (frozen_alloc_old hbl).trans (hm.free b (by simp) _)⟩) ?_
      obtain ⟨cur', q1, q2⟩ := heap_setCells_same b e1 (0, 0) cs (off + xs.length * c.size) (Wp.alloc (.cells cs.toArray e')) cur ((hold b hbl).trans hhb)
      have hob : ∀ d, d < Wp.heap.size → d ≠ b → ((Wp.alloc (.cells cs.toArray e')).setCells b (off + xs.length * c.size) cs).heap[d]? = Wp.heap[d]? := fun d hd hne => (heap_setCells_else b hne cs _ _).trans (hold d hd)
      refine h b off cap _ fs.flatten (Or.inr ⟨b, off, cap, fs ++ [f], cur', e1, by simp, by simpa using hroom, hc2, by simp, q1, by omega, elems_more he (fun d hd => hob d (hfo d hd) (fun e => hnd.1 (e ▸ hd))) (fun d hd => hob d (hfl d hd) (fun e => hdis d hd (e ▸ by simp))) hrd ?_ ?_⟩) ⟨hnd.2, fun d hd => by simp [hd], hnd.1, Or.inl (by simp)⟩
        (fun d hd i => by
          rcases List.mem_cons.1 hd with rfl | hd
          · rw [World.frozen?_setCells, frozen_alloc_old hbl]
            exact hm.free d (by simp) i
          · exact (World.frozen?_of_block (a := ⟨d, i, none⟩) (hob d (hfo d hd) (fun e => hnd.1 (e ▸ hd)))).trans (hm.free d (by simp [hd]) i)) (below_setCells (hm.low b (by simp)) _ _ _ (Below.alloc (Below.refl _ _) hB _)) (fun d hd hne => hob d hd (fun e => hne (e ▸ by simp)))
      · intro j hj
        rw [World.cell?_setCells_out b cs _ _ _ (fun _ _ => Or.inl (by simp; omega)), cell_alloc_old hbl]
      · intro j hj
        rw [World.cell?_setCells_in b cs _ _ hsome j (by omega), List.getElem?_eq_getElem]
    · have hoff : ∀ j, j < xs.length * c.size → ((cur.toList.drop off).take (xs.length * c.size))[j]? = Wp.cell? ⟨b, off + j, none⟩ := fun j hj => by
        rw [List.getElem?_take_of_lt hj, List.getElem?_drop, hcell, Array.getElem?_toList]
      have hle : xs.length * c.size ≤ cap * c.size := Nat.mul_le_mul_right _ hc1
      have hlen : ((cur.toList.drop off).take (xs.length * c.size)).length = xs.length * c.size := by
        have hcl2 : cur.toList.length = cur.size := by simp
        rw [List.length_take, List.length_drop, hcl2]
        omega
      refine grow (some ⟨b, off, none⟩) b off cap fs ((cur.toList.drop off).take (xs.length * c.size)) hs (fun h => by cases h) hlen (fun b' hb' j u hj => ?_) he hoff (by omega) (fun d hd => by simp [hd]) hnd.2 hfo
      injection hb' with hb'
      subst hb'
      have hjl : j < xs.length * c.size := by rw [← hlen]; exact (List.getElem?_eq_some_iff.1 hj).1
      rw [WideShapes.add_plain, cell_alloc_old hbl, ← hoff j hjl]
      exact hj

end Go.Proofs.Ytkcidneefdaaiaa

