/- How the arguments of the laws over memories are read; how long a list is by its reading. -/
import Derived.Test.YtecbnialcnplkaaProg
import Derived.Test.YtecbnialcnplkaaR5
import Derived.WalkKit
namespace Go.Proofs.Ytecbnialcnplkaa
open Go.ChangeShapes Go.WideShapes Go.Deep Go.RowKit
/-- A list of n places lies in the reading. -/
inductive InD {H : Type} : DataW H → Nat → Prop where
  | zero (d : DataW H) : InD d 0
  | slice (el sp : List (DataW H)) : InD (.slice el sp) el.length
  | agg (parts : List (DataW H)) (d : DataW H) (n : Nat) (h : d ∈ parts) (hi : InD d n) : InD (.agg parts) n
section
variable {H : Type} {P : Program} {enc : TypeId × Value → H} {w : World} {base : Nat} {spare : Nat → Bool} {held : Bool}
theorem slice_inD {t e : TypeId} {a : Option Addr} {len cap : Nat} {d : DataW H} {p : List MemPlace} (ht : P.underlying t = some (.slice e)) (h : DataW.Trod enc P w base spare held t (.slice a len cap) d p) : InD d len := by
  obtain ⟨fuel, hf⟩ := h
  rcases open_slice ht hf with ⟨he, hx⟩ | ⟨a', len', cap', m, n', D, Pl, he, _, hlc, hcm, hm, hx, _⟩
  · simp only [Value.cells, List.cons.injEq, and_true, Value.slice.injEq] at he
    obtain ⟨rfl, rfl, rfl⟩ := he
    exact .zero _
  · simp only [Value.cells, List.cons.injEq, and_true, Value.slice.injEq] at he
    obtain ⟨rfl, rfl, rfl⟩ := he
    simp only [Prod.mk.injEq] at hx
    obtain ⟨rfl, _⟩ := hx
    have := InD.slice ((List.range len).map D) ((List.range (m - len)).map fun j => D (len + j))
    simpa using this
end
section
variable {H : Type} {enc : TypeId × Value → H} {w : World} {base : Nat} {spare : Nat → Bool} {held : Bool}
end
end Go.Proofs.Ytecbnialcnplkaa
