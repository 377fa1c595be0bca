/- Layer 11: how BackEnds' argument is read. -/
import Derived.Test.YtlmnljijpgpmiaaW11e
namespace Go.Proofs.Ytlmnljijpgpmiaa
open Go.ChangeShapes Go.WideShapes Go.Deep Go.RowKit
section
variable {H : Type} {enc : TypeId × Value → H} {w : World} {base : Nat} {spare : Nat → Bool} {held : Bool}
theorem flatAct11 : flat Try.prog 6 43 = some [3, 3, 3, 3, 3, 2] := by kernel_rfl
theorem intsAct11 : ∀ u ∈ [3, 3, 3, 3, 3, 2], Try.prog.underlying u = some (.int .i64) := by
  intro u hu
  simp only [List.mem_cons, List.not_mem_nil, or_false] at hu
  rcases hu with h | h | h | h | h | h <;> rw [h]
  · exact Try.underlying3
  · exact Try.underlying3
  · exact Try.underlying3
  · exact Try.underlying3
  · exact Try.underlying3
  · exact Try.underlying2
theorem intsWr11 : ∀ u ∈ [3, 2], Try.prog.underlying u = some (.int .i64) := by
  intro u hu
  simp only [List.mem_cons, List.not_mem_nil, or_false] at hu
  rcases hu with h | h <;> rw [h]
  · exact Try.underlying3
  · exact Try.underlying2
set_option maxRecDepth 100000 in
theorem open_backEnds {r : Reach} {b0 : Nat} {v : Value} {d : DataW H} {p : List MemPlace} (hv : Value.okWide Try.prog w r b0 25 v) (h : DataW.Trod enc Try.prog w base spare held 25 v d p) :
    ∃ (raw : Int) (mu : Bool) (stamp : Int) (a1 : Option Addr) (l1 c1 : Nat) (q1 : Nat → Nat → Int) (a2 : Option Addr) (l2 c2 : Nat) (q2 : Nat → Nat → Int), v = .agg #[.int .i64 raw, .bool mu, .int .i64 stamp, .slice a1 l1 c1, .slice a2 l2 c2] ∧ Grid w a1 l1 2 q1 ∧ (∀ i j, I64 (q1 i j)) ∧ Grid w a2 l2 6 q2 ∧ (∀ i j, I64 (q2 i j)) ∧ l1 ≤ 9223372036854775807 ∧ InD d l2 := by
  obtain ⟨l, rfl, hl, hf⟩ := open_agg (n := 6) (ts := [3, 4, 3, 22, 23]) (.inl ⟨_, Try.underlying25⟩) (by kernel_rfl) hv h
  obtain ⟨fuel, hfu⟩ := h
  match l, hl with
  | [x0, x1, x2, x3, x4], _ =>
    obtain ⟨raw, rfl, _⟩ := leaf_int Try.underlying3 (hf 0 _ x0 rfl rfl)
    obtain ⟨mu, rfl⟩ := leaf_bool Try.underlying4 (hf 1 _ x1 rfl rfl)
    obtain ⟨stamp, rfl, _⟩ := leaf_int Try.underlying3 (hf 2 _ x2 rfl rfl)
    obtain ⟨m1, y1, hy1, hin1⟩ := field_in (st := 22) (j := 3) (o := 3) Try.underlying25 (by kernel_rfl) (by kernel_rfl) hfu (v := x3) rfl
    obtain ⟨m2, y2, hy2, hin2⟩ := field_in (st := 23) (j := 4) (o := 4) Try.underlying25 (by kernel_rfl) (by kernel_rfl) hfu (v := x4) rfl
    obtain ⟨a1, l1, c1, q1, rfl, g1, g2, g3, g4, g5⟩ := open_gridS (n := 6) (sz := 2) (ts := [3, 2]) Try.underlying22 (by kernel_rfl) (by kernel_rfl) rfl (by decide) intsWr11 hy1
    obtain ⟨a2, l2, c2, q2, rfl, k1, k2, k3, k4, k5⟩ := open_gridS (sz := 6) Try.underlying23 flatAct11 (by kernel_rfl) rfl (Nat.succ_pos 5) intsAct11 hy2
    exact ⟨raw, mu, stamp, a1, l1, c1, q1, a2, l2, c2, q2, rfl, g1, fun i j => I64.of_wf (g4 i j), k1, fun i j => I64.of_wf (k4 i j), by unfold maxLen at g3; omega, hin2 _ k5⟩
theorem backEnds_sized {ts : List TypeId} {ds : List (DataW H)} {i : Nat} {d : DataW H} {p : List MemPlace} {v : Value} {a : Option Addr} {len cap : Nat} (hz : (DataW.weightsEach Try.prog ts ds).all (· ≤ reachBytes) = true) (ht : ts[i]? = some 25) (hd : ds[i]? = some d) (h : DataW.Trod enc Try.prog w base spare held 25 v d p) (hv : v.cells.toList[4]? = some (.slice a len cap)) : len ≤ 2932031007402 := by
  have h1 := sized_field (st := 23) (j := 4) (o := 4) (B := 48) Try.underlying25 (by kernel_rfl) (by kernel_rfl) Try.underlying23 (by kernel_rfl) hz ht hd h hv
  omega
end
end Go.Proofs.Ytlmnljijpgpmiaa
