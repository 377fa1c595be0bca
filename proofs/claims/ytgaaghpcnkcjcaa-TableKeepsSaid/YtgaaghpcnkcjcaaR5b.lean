/- How the arguments of the laws over tables are read. -/
import Derived.Test.YtgaaghpcnkcjcaaProg
import Derived.Test.YtgaaghpcnkcjcaaR5
import Derived.WalkKit
namespace Go.Proofs.Ytgaaghpcnkcjcaa
open Go.ChangeShapes Go.WideShapes Go.Deep Go.RowKit
section
variable {H : Type} {enc : TypeId × Value → H} {w : World} {base : Nat} {spare : Nat → Bool} {held : Bool}
theorem flatStep5 : flat Try.prog 4 51 = some [3, 3, 2] := by kernel_rfl
theorem open_steps5 {r : Reach} {b0 : Nat} {v : Value} {d : DataW H} {p : List MemPlace} (hv : Value.okWide Try.prog w r b0 48 v) (h : DataW.Trod enc Try.prog w base spare held 48 v d p) :
    ∃ a len cap q, v = .slice a len cap ∧ Grid w a len 3 q ∧ len ≤ cap ∧ cap ≤ maxLen ∧ ∀ i j, (Lit.int .i64 (q i j)).wf = true :=
  open_grid Try.underlying48 flatStep5 (by kernel_rfl) rfl (by decide) (by intro u hu; simp at hu; rcases hu with rfl | rfl | rfl <;> first | exact Try.underlying3 | exact Try.underlying2) hv h
theorem flatWrite5 : flat Try.prog 4 36 = some [3, 2] := by kernel_rfl
theorem open_writes5 {r : Reach} {b0 : Nat} {v : Value} {d : DataW H} {p : List MemPlace} (hv : Value.okWide Try.prog w r b0 28 v) (h : DataW.Trod enc Try.prog w base spare held 28 v d p) :
    ∃ a len cap q, v = .slice a len cap ∧ Grid w a len 2 q ∧ len ≤ cap ∧ cap ≤ maxLen ∧ ∀ i j, (Lit.int .i64 (q i j)).wf = true :=
  open_grid Try.underlying28 flatWrite5 (by kernel_rfl) rfl (by decide) (by intro u hu; simp at hu; rcases hu with rfl | rfl <;> first | exact Try.underlying3 | exact Try.underlying2) hv h
end
end Go.Proofs.Ytgaaghpcnkcjcaa
