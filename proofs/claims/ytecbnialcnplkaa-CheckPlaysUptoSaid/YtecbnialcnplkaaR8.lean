/- How the arguments of the laws of layer 8 are read. -/
import Derived.Test.YtecbnialcnplkaaProg
import Derived.Test.YtecbnialcnplkaaR1
import Derived.Test.YtecbnialcnplkaaS2
import Derived.WalkKit
namespace Go.Proofs.Ytecbnialcnplkaa
open Go.ChangeShapes Go.WideShapes Go.Deep Go.RowKit
theorem u64_wf {n : Int} (hw : (Lit.int .u64 n).wf = true) : 0 ≤ n ∧ n < 18446744073709551616 := by
  have hw' : 0 ≤ n ∧ n ≤ 18446744073709551615 := by simpa [Lit.wf, IntKind.min, IntKind.max, IntKind.signed, IntKind.bits] using hw
  omega
/-- A signature of eight numbers. -/
theorem sig8 (a0 a1 a2 a3 a4 a5 a6 a7 : Int) (h0 : (Lit.int .u64 a0).wf = true) (h1 : (Lit.int .u64 a1).wf = true) (h2 : (Lit.int .u64 a2).wf = true) (h3 : (Lit.int .u64 a3).wf = true) (h4 : (Lit.int .u64 a4).wf = true) (h5 : (Lit.int .u64 a5).wf = true) (h6 : (Lit.int .u64 a6).wf = true) (h7 : (Lit.int .u64 a7).wf = true) :
    ∃ s : Nat → Int, Wds s ∧ s 0 = a0 ∧ s 1 = a1 ∧ s 2 = a2 ∧ s 3 = a3 ∧ s 4 = a4 ∧ s 5 = a5 ∧ s 6 = a6 ∧ s 7 = a7 := by
  refine ⟨fun k => match k with | 0 => a0 | 1 => a1 | 2 => a2 | 3 => a3 | 4 => a4 | 5 => a5 | 6 => a6 | 7 => a7 | _ => 0, fun k => ?_, rfl, rfl, rfl, rfl, rfl, rfl, rfl, rfl⟩
  match k with
  | 0 => exact u64_wf h0
  | 1 => exact u64_wf h1
  | 2 => exact u64_wf h2
  | 3 => exact u64_wf h3
  | 4 => exact u64_wf h4
  | 5 => exact u64_wf h5
  | 6 => exact u64_wf h6
  | 7 => exact u64_wf h7
  | k + 8 => exact ⟨by show (0 : Int) ≤ 0; omega, by show (0 : Int) < 18446744073709551616; omega⟩
section
variable {H : Type} {enc : TypeId × Value → H} {w : World} {base : Nat} {spare : Nat → Bool} {held : Bool}
set_option maxRecDepth 100000 in
theorem open_checkElse {r : Reach} {b0 : Nat} {v : Value} {d : DataW H} {p : List MemPlace} (hv : Value.okWide Try.prog w r b0 55 v) (h : DataW.Trod enc Try.prog w base spare held 55 v d p) :
    ∃ (n f : Int) (s : Nat → Int) (m : Int), v = .agg #[.int .i64 n, .int .i64 f, .int .u64 (s 0), .int .u64 (s 1), .int .u64 (s 2), .int .u64 (s 3), .int .u64 (s 4), .int .u64 (s 5), .int .u64 (s 6), .int .u64 (s 7), .int .i64 m] ∧ Wds s ∧ (Lit.int .i64 n).wf = true ∧ (Lit.int .i64 f).wf = true ∧ (Lit.int .i64 m).wf = true := by
  obtain ⟨l, rfl, hl, hf⟩ := open_agg (n := 6) (ts := [3, 2, 40, 40, 40, 40, 40, 40, 40, 40, 3]) (.inl ⟨_, Try.underlying55⟩) (by kernel_rfl) hv h
  match l, hl with
  | [x0, x1, x2, x3, x4, x5, x6, x7, x8, x9, x10], _ =>
    obtain ⟨n, rfl, hn⟩ := leaf_int Try.underlying3 (hf 0 _ x0 rfl rfl)
    obtain ⟨f, rfl, hf'⟩ := leaf_int Try.underlying2 (hf 1 _ x1 rfl rfl)
    obtain ⟨a0, rfl, k0⟩ := leaf_int Try.underlying40 (hf 2 _ x2 rfl rfl)
    obtain ⟨a1, rfl, k1⟩ := leaf_int Try.underlying40 (hf 3 _ x3 rfl rfl)
    obtain ⟨a2, rfl, k2⟩ := leaf_int Try.underlying40 (hf 4 _ x4 rfl rfl)
    obtain ⟨a3, rfl, k3⟩ := leaf_int Try.underlying40 (hf 5 _ x5 rfl rfl)
    obtain ⟨a4, rfl, k4⟩ := leaf_int Try.underlying40 (hf 6 _ x6 rfl rfl)
    obtain ⟨a5, rfl, k5⟩ := leaf_int Try.underlying40 (hf 7 _ x7 rfl rfl)
    obtain ⟨a6, rfl, k6⟩ := leaf_int Try.underlying40 (hf 8 _ x8 rfl rfl)
    obtain ⟨a7, rfl, k7⟩ := leaf_int Try.underlying40 (hf 9 _ x9 rfl rfl)
    obtain ⟨m, rfl, hm⟩ := leaf_int Try.underlying3 (hf 10 _ x10 rfl rfl)
    obtain ⟨s, hs, rfl, rfl, rfl, rfl, rfl, rfl, rfl, rfl⟩ := sig8 a0 a1 a2 a3 a4 a5 a6 a7 k0 k1 k2 k3 k4 k5 k6 k7
    exact ⟨n, f, s, m, rfl, hs, hn, hf', hm⟩
end
end Go.Proofs.Ytecbnialcnplkaa
