/- How each type is marked. Printed by mkmark.py. -/
import Derived.Test.YtpiheobpobclgaaGreatDoorKit
import Derived.Test.YtpiheobpobclgaaGreatDoorRowd
namespace Go.Proofs.YtpiheobpobclgaaGreatDoor
open Go.RowKit

theorem PT.okS_form {p : PT} {w : World} {v : Value} {fp : List Nat} (h : PT.okS p w v fp) (hm : Mine w 0 fp) : ∃ (a : Option Addr) (n cap : Nat), v = .slice a n cap ∧ n ≤ cap ∧ cap ≤ maxLen ∧
    (0 < n → ∃ b o f, a = some ⟨b, o, none⟩ ∧ b < w.heap.size ∧ (PT.rows p n).ok w b o f ∧ Mine w 0 (b :: f)) := by
  obtain ⟨a, n, cap, rfl, h1, h2, h3, h4⟩ := h
  refine ⟨a, n, cap, rfl, h1, h2, fun hp => ?_⟩
  rcases h4 with ⟨rfl, _⟩ | ⟨b, o, f, rfl, rfl, hb, h4⟩
  · omega
  · exact ⟨b, o, f, rfl, hb, h4, hm⟩

theorem PT.rows_len_le (p : PT) (w : World) (b o : Nat) {j n : Nat} (h : j < n) : ((PT.rows p j).plan w b o).length + (p.plan w b (o + j * p.size)).length ≤ ((PT.rows p n).plan w b o).length := by
  obtain ⟨m, rfl⟩ : ∃ m, n = (j + 1) + m := ⟨n - j - 1, by omega⟩
  rw [PT.rows_plan p w b m (j + 1) o, PT.rows_snoc]
  simp only [List.length_append]
  omega

/-- A slice elsewhere than what has been stored. -/
theorem Stored.sub {p : PT} {w w' : World} {P : List (Addr × MK)} {k : Nat} {u : Value} {g : List Nat} (h : Stored w w' P k) (ho : PT.okS p w u g) (hm : Mine w 0 g) (hp : ∀ x ∈ P, x.1.block ∉ g) :
    PT.okS p w' u g ∧ PT.planS p w' u = PT.planS p w u ∧ Mine w' 0 g := by
  have hold := PT.okS_old ho
  have hni : ∀ a : Addr, a.block ∈ g → a ∉ P.map Prod.fst := fun a ha hma => by
    obtain ⟨x, hx, rfl⟩ := List.mem_map.1 hma
    exact hp x hx ha
  have := PT.okS_stay ho hm.nodup h.size (fun a ha _ => h.same a (hold _ ha) (hni a ha)) (fun x hx => by
    obtain ⟨u, hu⟩ := PT.planS_cell ho x hx
    have hin := PT.planS_in ho x hx
    exact ⟨u, (h.same _ (hold _ hin) (hni _ hin)).trans hu⟩)
  exact ⟨this.1, this.2, hm.nodup, hm.low, fun d hd i => (h.frozen ⟨d, i, none⟩ (hold d hd)).trans (hm.free d hd i)⟩

theorem Mine.parts {w : World} {b : Nat} {f g : List Nat} (h : Mine w 0 (b :: (f ++ g))) : Mine w 0 f ∧ Mine w 0 g ∧ b ∉ f ∧ b ∉ g ∧ ∀ d ∈ f, d ∉ g := by
  have hn := h.nodup
  rw [List.nodup_cons, List.mem_append] at hn
  have h2 := List.nodup_append.1 hn.2
  exact ⟨⟨h2.1, fun _ _ => Nat.zero_le _, fun d hd => h.free d (List.mem_cons_of_mem _ (List.mem_append_left _ hd))⟩, ⟨h2.2.1, fun _ _ => Nat.zero_le _, fun d hd => h.free d (List.mem_cons_of_mem _ (List.mem_append_right _ hd))⟩,
    fun e => hn.1 (Or.inl e), fun e => hn.1 (Or.inr e), fun d hd e => h2.2.2 _ hd _ e rfl⟩
theorem Mine.part {w : World} {b : Nat} {f : List Nat} (h : Mine w 0 (b :: f)) : Mine w 0 f ∧ b ∉ f :=
  ⟨⟨(List.nodup_cons.1 h.nodup).2, fun _ _ => Nat.zero_le _, fun d hd => h.free d (List.mem_cons_of_mem _ hd)⟩, (List.nodup_cons.1 h.nodup).1⟩

def PT.tstr : PT := PT.sc .str

def PT.tint : PT := PT.sc .int

def PT.twrite : PT := PT.pair (PT.sc .str) (PT.pair (PT.sc .str) (PT.sc .bool))

def PT.tver : PT := PT.pair (PT.sc .int) (PT.pair (PT.sc .str) (PT.sc .bool))

def PT.top : PT := PT.pair (PT.sc .int) (PT.pair (PT.sc .str) (PT.pair (PT.sc .str) (PT.sc .int)))

def PT.tcell : PT := PT.pair (PT.sc .str) (PT.arr PT.tver)

def PT.trecd : PT := PT.pair (PT.sc .int) (PT.pair (PT.sc .int) (PT.pair (PT.sc .int) (PT.pair (PT.sc .int) (PT.pair (PT.arr PT.tstr) (PT.pair (PT.arr PT.twrite) (PT.sc .bool))))))

def PT.tentry : PT := PT.pair (PT.sc .int) (PT.pair (PT.sc .int) (PT.pair (PT.sc .int) (PT.pair (PT.sc .int) (PT.pair (PT.sc .int) (PT.pair (PT.arr PT.tstr) (PT.pair (PT.arr PT.twrite) (PT.sc .bool)))))))

def PT.treplica : PT := PT.pair (PT.sc .bool) (PT.pair (PT.arr PT.tentry) (PT.sc .int))

def PT.tletter : PT := PT.pair (PT.sc .int) (PT.pair (PT.sc .int) (PT.pair (PT.sc .int) (PT.sc .str)))

def PT.tvoter : PT := PT.pair (PT.sc .bool) (PT.pair (PT.sc .int) (PT.pair (PT.sc .int) (PT.pair (PT.arr PT.tint) (PT.sc .bool))))

def PT.twon : PT := PT.pair (PT.sc .int) (PT.sc .int)

def LString (_ : ByteArray) : Nat := 1
def LInt (_ : Int) : Nat := 1
theorem fitsString : Fits Cod.str PT.tstr LString := fits_one _ _ _
theorem fitsInt : Fits Cod.int PT.tint LInt := fits_one _ _ _

def LWrite (x : WriteD) : Nat := 1 + (1 + (1))
theorem fitsWrite : Fits Cod.write PT.twrite LWrite := Fits.via (Fits.pair (fits_one _ _ _) (Fits.pair (fits_one _ _ _) (fits_one _ _ _))) _

def LVer (x : VerD) : Nat := 1 + (1 + (1))
theorem fitsVer : Fits Cod.ver PT.tver LVer := Fits.via (Fits.pair (fits_one _ _ _) (Fits.pair (fits_one _ _ _) (fits_one _ _ _))) _

def LOp (x : OpD) : Nat := 1 + (1 + (1 + (1)))
theorem fitsOp : Fits Cod.op PT.top LOp := Fits.via (Fits.pair (fits_one _ _ _) (Fits.pair (fits_one _ _ _) (Fits.pair (fits_one _ _ _) (fits_one _ _ _)))) _

def LCell (x : CellD) : Nat := 1 + (sumN LVer x.Vers)
theorem fitsCell : Fits Cod.cell PT.tcell LCell := Fits.via (Fits.pair (fits_one _ _ _) (Fits.slice fitsVer)) _

def LRec (x : RecD) : Nat := 1 + (1 + (1 + (1 + (sumN LString x.Reads + (sumN LWrite x.Writes + (1))))))
theorem fitsRec : Fits Cod.recd PT.trecd LRec := Fits.via (Fits.pair (fits_one _ _ _) (Fits.pair (fits_one _ _ _) (Fits.pair (fits_one _ _ _) (Fits.pair (fits_one _ _ _) (Fits.pair (Fits.slice fitsString) (Fits.pair (Fits.slice fitsWrite) (fits_one _ _ _))))))) _

end Go.Proofs.YtpiheobpobclgaaGreatDoor
