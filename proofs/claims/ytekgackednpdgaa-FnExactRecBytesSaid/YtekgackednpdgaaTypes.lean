/- The program's types as Lean data, and how an argument of a law is opened. -/
import Derived.Test.YtekgackednpdgaaOpen
namespace Go.Proofs.Ytekgackednpdgaa
open Go.RowKit Go.ChangeShapes Go.WideShapes

section
variable {H : Type} {enc : TypeId × Value → H} {w : World}

theorem open_arg {P : Program} {α : Type} {c : Cod α} {t : TypeId} {v : Value} {d : DataW H} {ps : List MemPlace} (h : Opens enc P w c t) (hd : DataW.Trod enc P w 0 (fun _ => true) true t v d ps) :
    ∃ y fp, c.rd w (fun j => v.cells[j]?) y fp := by
  obtain ⟨fuel, hf⟩ := hd
  obtain ⟨y, fp, hy⟩ := h.2 _ _ _ hf
  exact ⟨y, fp, c.ext (fun j _ => by simp) hy⟩

theorem array1 {α : Type} {cs : Array α} (h : cs.size = 1) : ∃ c0, cs = #[c0] := by
  obtain ⟨l⟩ := cs
  match l, h with
  | [a], _ => exact ⟨a, rfl⟩
theorem agg_of {cs : Array Value} {n : Nat} (h : cs.size = n) : ∃ l : List Value, cs = l.toArray ∧ l.length = n := ⟨cs.toList, by simp, by simpa using h⟩

theorem opensInt : Opens enc Try.prog w Cod.int 3 := opens_int Try.underlying3 (by kernel_rfl)
theorem opensBool : Opens enc Try.prog w Cod.bool 4 := opens_bool Try.underlying4 (by kernel_rfl)
theorem opensStr : Opens enc Try.prog w Cod.str 9 := opens_str Try.underlying9 (by kernel_rfl)

structure Clock where
  Off : Int

def Cod.clock : Cod Clock := Cod.via Cod.int (fun c => c.Off)

structure Span where
  Low : Int
  High : Int

set_option maxRecDepth 100000 in
theorem arg_disk {r : Reach} {b0 : Nat} {v : Value} {d : DataW H} {ps : List MemPlace} (hv : Value.okWide Try.prog w r b0 42 v) (hd : DataW.Trod enc Try.prog w 0 (fun _ => true) true 42 v d ps) :
    ∃ x y : ByteArray, v = .agg #[.string x, .string y] ∧ x.size ≤ maxLen ∧ y.size ≤ maxLen := by
  obtain ⟨cs, rfl, hs⟩ := okWide_struct Try.underlying42 hv
  rw [show Try.prog.cellsOf 42 = 2 from by kernel_rfl] at hs
  obtain ⟨y, fp, hy⟩ := open_arg (opens_struct Try.underlying42 (by kernel_rfl) (opensF_cons opensStr rfl (opensF_one opensStr rfl))) hd
  obtain ⟨c0, c1, rfl⟩ := Joins.array2 hs
  obtain ⟨_, _, _, ⟨h0, h1, _⟩, ⟨k0, k1, _⟩⟩ := hy
  simp [Value.cells, Cod.str, Cod.one] at h0 k0
  subst h0
  subst k0
  exact ⟨_, _, rfl, h1, k1⟩

end

end Go.Proofs.Ytekgackednpdgaa
