/- RingGrows: the reading of its list. -/
import Derived.Test.YtphnhkoklnladaaW4k
namespace Go.Proofs.Ytphnhkoklnladaa
open Go.ChangeShapes Go.WideShapes Go.Deep Go.RowKit
section
variable {H : Type} {enc : TypeId × Value → H} {w : World} {base : Nat} {spare : Nat → Bool} {held : Bool}
theorem flatInt4 : flat Try.prog 6 3 = some [3] := by kernel_rfl
theorem intsInt4 : ∀ u ∈ [3], Try.prog.underlying u = some (.int .i64) := by
  intro u hu
  simp only [List.mem_cons, List.not_mem_nil, or_false] at hu
  rw [hu]
  exact Try.underlying3
set_option maxRecDepth 100000 in
theorem open_ints4 {r : Reach} {b0 : Nat} {v : Value} {d : DataW H} {p : List MemPlace} (hv : Value.okWide Try.prog w r b0 22 v) (h : DataW.Trod enc Try.prog w base spare held 22 v d p) :
    ∃ a len cap q, v = .slice a len cap ∧ Grid w a len 1 q ∧ len ≤ cap ∧ cap ≤ maxLen ∧ (∀ i j, (Lit.int .i64 (q i j)).wf = true) ∧ InD d len := by
  obtain ⟨a, len, cap, q, rfl, h1, h2, h3, h4⟩ := open_grid (sz := 1) Try.underlying22 flatInt4 (by kernel_rfl) rfl (Nat.succ_pos 0) intsInt4 hv h
  exact ⟨a, len, cap, q, rfl, h1, h2, h3, h4, slice_inD Try.underlying22 h⟩
end
end Go.Proofs.Ytphnhkoklnladaa
