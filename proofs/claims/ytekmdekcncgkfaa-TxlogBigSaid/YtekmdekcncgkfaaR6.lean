/- How the arguments of the laws over logs are read. -/
import Derived.Test.YtekmdekcncgkfaaProg
import Derived.Test.YtekmdekcncgkfaaR5
import Derived.WalkKit
namespace Go.Proofs.Ytekmdekcncgkfaa
open Go.ChangeShapes Go.WideShapes Go.Deep Go.RowKit
section
variable {H : Type} {enc : TypeId × Value → H} {w : World} {base : Nat} {spare : Nat → Bool} {held : Bool}
theorem flatStep6 : flat Try.prog 4 46 = some [3, 3, 2] := by kernel_rfl
theorem open_steps6 {r : Reach} {b0 : Nat} {v : Value} {d : DataW H} {p : List MemPlace} (hv : Value.okWide Try.prog w r b0 40 v) (h : DataW.Trod enc Try.prog w base spare held 40 v d p) :
    ∃ a len cap q, v = .slice a len cap ∧ Grid w a len 3 q ∧ len ≤ cap ∧ cap ≤ maxLen ∧ ∀ i j, (Lit.int .i64 (q i j)).wf = true :=
  open_grid Try.underlying40 flatStep6 (by kernel_rfl) rfl (by decide) (by intro u hu; simp at hu; rcases hu with rfl | rfl | rfl <;> first | exact Try.underlying3 | exact Try.underlying2) hv h
theorem open_big6 {r : Reach} {b0 : Nat} {v : Value} {d : DataW H} {p : List MemPlace} (hv : Value.okWide Try.prog w r b0 36 v) (h : DataW.Trod enc Try.prog w base spare held 36 v d p) :
    ∃ m f c x, v = .agg #[.int .i64 m, .int .i64 f, .int .i64 c, .int .i64 x] ∧ (Lit.int .i64 m).wf = true ∧ (Lit.int .i64 f).wf = true ∧ (Lit.int .i64 c).wf = true ∧ (Lit.int .i64 x).wf = true := by
  obtain ⟨l, rfl, hl, hf⟩ := open_agg (n := 4) (ts := [3, 3, 3, 2]) (.inl ⟨_, Try.underlying36⟩) (by kernel_rfl) hv h
  match l, hl with
  | [a, b, c, d], _ =>
    obtain ⟨m, rfl, hm⟩ := leaf_int Try.underlying3 (hf 0 _ a rfl rfl)
    obtain ⟨f, rfl, hf'⟩ := leaf_int Try.underlying3 (hf 1 _ b rfl rfl)
    obtain ⟨c', rfl, hc⟩ := leaf_int Try.underlying3 (hf 2 _ c rfl rfl)
    obtain ⟨x, rfl, hx⟩ := leaf_int Try.underlying2 (hf 3 _ d rfl rfl)
    exact ⟨m, f, c', x, rfl, hm, hf', hc, hx⟩
end
end Go.Proofs.Ytekmdekcncgkfaa
