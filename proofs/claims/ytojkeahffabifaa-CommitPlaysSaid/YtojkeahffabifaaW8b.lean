/- Layer 8: the walk of CheckElse. -/
import Derived.Test.YtojkeahffabifaaW8
import Derived.Test.YtojkeahffabifaaC3i
namespace Go.Proofs.Ytojkeahffabifaa
open Go.RowKit
set_option linter.unusedVariables false
theorem ktakes_any (s f : Int) (w : World) : Calls Try.prog 42 #[.int .i64 s, .int .i64 f] w fun e w' => e = .returned (.bool (decide ((1 ≤ s ∧ s ≤ 16) ∧ 0 ≤ f))) ∧ w = w' := by
  by_cases h1 : 1 ≤ s
  · by_cases h2 : s ≤ 16
    · by_cases h3 : 0 ≤ f
      · go_enter Try.func42, Try.ntmps42
        go_wp2
        go_ret
        exact ⟨by congr 2; simp [h1, h2, h3], rfl⟩
      · go_enter Try.func42, Try.ntmps42
        go_wp2
        go_ret
        exact ⟨by congr 2; simp; omega, rfl⟩
    · go_enter Try.func42, Try.ntmps42
      go_wp2
      go_ret
      exact ⟨by congr 2; simp; omega, rfl⟩
  · go_enter Try.func42, Try.ntmps42
    go_wp2
    go_ret
    exact ⟨by congr 2; simp; omega, rfl⟩
end Go.Proofs.Ytojkeahffabifaa
