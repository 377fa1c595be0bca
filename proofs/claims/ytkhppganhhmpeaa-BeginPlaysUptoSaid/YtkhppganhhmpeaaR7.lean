/- How the arguments of the laws over memories are read; how long a list is by its reading. -/
import Derived.Test.YtkhppganhhmpeaaProg
import Derived.Test.YtkhppganhhmpeaaR5
import Derived.WalkKit
namespace Go.Proofs.Ytkhppganhhmpeaa
open Go.ChangeShapes Go.WideShapes Go.Deep Go.RowKit
/-- A list of n places lies in the reading. -/
inductive InD {H : Type} : DataW H → Nat → Prop where
  | zero (d : DataW H) : InD d 0
  | slice (el sp : List (DataW H)) : InD (.slice el sp) el.length
  | agg (parts : List (DataW H)) (d : DataW H) (n : Nat) (h : d ∈ parts) (hi : InD d n) : InD (.agg parts) n
section
variable {H : Type} {P : Program} {enc : TypeId × Value → H} {w : World} {base : Nat} {spare : Nat → Bool} {held : Bool}
theorem slice_inD {t e : TypeId} {a : Option Addr} {len cap : Nat} {d : DataW H} {p : List MemPlace} (ht : P.underlying t = some (.slice e)) (h : DataW.Trod enc P w base spare held t (.slice a len cap) d p) : InD d len := by
  obtain ⟨fuel, hf⟩ := h
  rcases open_slice ht hf with ⟨he, hx⟩ | ⟨a', len', cap', m, n', D, Pl, he, _, hlc, hcm, hm, hx, _⟩
  · simp only [Value.cells, List.cons.injEq, and_true, Value.slice.injEq] at he
    obtain ⟨rfl, rfl, rfl⟩ := he
    exact .zero _
  · simp only [Value.cells, List.cons.injEq, and_true, Value.slice.injEq] at he
    obtain ⟨rfl, rfl, rfl⟩ := he
    simp only [Prod.mk.injEq] at hx
    obtain ⟨rfl, _⟩ := hx
    have := InD.slice ((List.range len).map D) ((List.range (m - len)).map fun j => D (len + j))
    simpa using this
end
section
variable {H : Type} {enc : TypeId × Value → H} {w : World} {base : Nat} {spare : Nat → Bool} {held : Bool}
theorem flatAct7 : flat Try.prog 6 35 = some [3, 3, 3, 3, 3, 2] := by kernel_rfl
theorem intsAct7 : ∀ u ∈ [3, 3, 3, 3, 3, 2], Try.prog.underlying u = some (.int .i64) := by
  intro u hu
  simp only [List.mem_cons, List.not_mem_nil, or_false] at hu
  rcases hu with h | h | h | h | h | h <;> rw [h]
  · exact Try.underlying3
  · exact Try.underlying3
  · exact Try.underlying3
  · exact Try.underlying3
  · exact Try.underlying3
  · exact Try.underlying2
set_option maxRecDepth 100000 in
theorem open_acts7 {r : Reach} {b0 : Nat} {v : Value} {d : DataW H} {p : List MemPlace} (hv : Value.okWide Try.prog w r b0 22 v) (h : DataW.Trod enc Try.prog w base spare held 22 v d p) :
    ∃ a len cap q, v = .slice a len cap ∧ Grid w a len 6 q ∧ len ≤ cap ∧ cap ≤ maxLen ∧ (∀ i j, (Lit.int .i64 (q i j)).wf = true) ∧ InD d len := by
  obtain ⟨a, len, cap, q, rfl, h1, h2, h3, h4⟩ := open_grid (sz := 6) Try.underlying22 flatAct7 (by kernel_rfl) rfl (Nat.succ_pos 5) intsAct7 hv h
  exact ⟨a, len, cap, q, rfl, h1, h2, h3, h4, slice_inD Try.underlying22 h⟩
end
end Go.Proofs.Ytkhppganhhmpeaa
