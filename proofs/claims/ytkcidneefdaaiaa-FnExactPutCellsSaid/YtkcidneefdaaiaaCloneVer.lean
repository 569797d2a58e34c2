/- slices.Clone of a list of impl.Ver. Printed by mkclone.py. -/
import Derived.Test.YtkcidneefdaaiaaRowd
import Derived.Lib.SliceRun
namespace Go.Proofs.Ytkcidneefdaaiaa
open Go.RowKit

theorem Try_infoC_Ver : (Try.prog.info? 77).map (fun i => (i.zero, i.size, i.bytes)) = some (some (.agg #[.int .i64 0, .string ⟨#[]⟩, .bool false]), 3, 32) := by kernel_rfl

set_option maxRecDepth 100000 in
/-- slices.Clone -/
theorem cloneVer_p (v : Value) (l : List VerD) (hl : l.length ≤ 1048576) (w : World) (h : Rd Cod.ver w v l) :
    Calls Try.prog 76 #[v] w fun e w' => ∃ v' cells, e = .returned v' ∧ PartC Cod.ver w' w.heap.size 77 v' l.length l cells ∧ Below w.heap.size w w' := by
  obtain ⟨i0, hi, hz0, hz1, hz2⟩ := info_parts Try_infoC_Ver
  have hr := Lib.hid h
  obtain ⟨p, c, rfl, _, _, hn⟩ : ∃ p c, v = .slice p l.length c ∧ l.length ≤ c ∧ c ≤ maxLen ∧ (p = none → c = 0) := by
    obtain ⟨fp, a', cap, hv, h1, h2, h3, _⟩ := h
    exact ⟨a', cap, hv, h1, h2, h3⟩
  rcases p with _ | ad
  · have hc0 := hn rfl
    subst hc0
    have hy : l = [] := List.eq_nil_of_length_eq_zero (by omega)
    subst hy
    clear h hn
    have heq := fun (W : World) (r : Option Addr) (n c : Nat) => Lib.run_eql_slice_nil (P := Try.prog) W 55 _ r n c 0 0 Try.underlying55
    go_enter Try.func76, Try.ntmps76
    go_wp2
    go_ret
    exact ⟨_, [], rfl, part_start (World.ownsRow_nil _ _ _ _), Below.refl _ _⟩
  · clear h hn
    obtain ⟨n, hn⟩ : ∃ n : Nat, l.length = n := ⟨_, rfl⟩
    have Hn := Lib.hid hn
    have hb : (0 + l.length) * 32 ≤ room := by unfold room; omega
    have Hb := Lib.hid hb
    have Hr2 : Hid (∀ (u : World), Below w.heap.size w u → Rd Cod.ver u (.slice (some ad) n c) l) := Lib.hid fun u k => by have := hr.out.below k; rwa [hn] at this
    clear hb hr
    rw [hn]
    clear hn hl
    have heq := fun (W : World) (r : Option Addr) (n c : Nat) => Lib.run_eql_slice_nil (P := Try.prog) W 55 _ r n c 0 0 Try.underlying55
    go_enter Try.func76, Try.ntmps76
    go_wp2_with (at_builtin; refine wpList_append_flat (c := Cod.ver) flat_ver _ rfl _ _ 55 (by rfl) w.heap.size 77 i0 (.agg #[.int .i64 0, .string ⟨#[]⟩, .bool false]) 32 Try.underlying55 hi hz0 hz1 hz2 rfl (by decide) (by decide) _ (.slice (some ⟨w.heap.size, 0, none⟩) 0 0) 0 [] [] (by rfl) (part_start (World.ownsRow_made _ _ _ (Nat.le_refl _) (by simp) rfl)) rfl (Below.refl _ _) (.slice (some ad) n c) l (by rfl) (Hr2.out _ (below_new _ _)) Hb.out (by simp) ?_)
    intro p' c' w' cells' hP hb'
    have HP := Lib.hid hP
    clear hP
    have hb2 : Below w.heap.size w w' := (below_new _ _).trans hb'
    clear hb'
    go_wp2
    go_ret
    have h3 := HP.out
    (try simp only [Nat.zero_add, List.nil_append] at h3 ⊢)
    exact ⟨_, _, rfl, by rw [← Hn.out]; exact h3, hb2⟩

/-- slices.Clone -/
theorem cloneVer_any (v : Value) (l : List VerD) (hl : l.length ≤ 1048576) (w : World) (h : Rd Cod.ver w v l) :
    Calls Try.prog 76 #[v] w fun e w' => ∃ v', e = .returned v' ∧ Own Cod.ver w' w.heap.size v' l ∧ Below w.heap.size w w' :=
  (cloneVer_p v l hl w h).mono fun _ _ ⟨v', _, he, hp, hb⟩ => ⟨v', he, hp.own rfl, hb⟩

end Go.Proofs.Ytkcidneefdaaiaa
