/- How the argument of FetchPlays is read. -/
import Derived.Test.YtcbjbmbibnmohaaRT
namespace Go.Proofs.Ytcbjbmbibnmohaa
open Go.ChangeShapes Go.WideShapes Go.Deep Go.RowKit
section
variable {H : Type} {enc : TypeId × Value → H} {w : World} {base : Nat} {spare : Nat → Bool} {held : Bool}
theorem flatAct9 : flat Try.prog 6 72 = some [3, 3, 3, 3, 3, 2] := by kernel_rfl
theorem intsAct9 : ∀ u ∈ [3, 3, 3, 3, 3, 2], Try.prog.underlying u = some (.int .i64) := by
  intro u hu
  simp only [List.mem_cons, List.not_mem_nil, or_false] at hu
  rcases hu with h | h | h | h | h | h <;> rw [h]
  · exact Try.underlying3
  · exact Try.underlying3
  · exact Try.underlying3
  · exact Try.underlying3
  · exact Try.underlying3
  · exact Try.underlying2
set_option maxRecDepth 100000 in
theorem open_fetchPlays {r : Reach} {b0 : Nat} {v : Value} {d : DataW H} {p : List MemPlace} (hv : Value.okWide Try.prog w r b0 64 v) (h : DataW.Trod enc Try.prog w base spare held 64 v d p) :
    ∃ (n f : Int) (s : Nat → Int) (c cells ring : Int) (a : Option Addr) (len cap : Nat) (q : Nat → Nat → Int), v = .agg #[.int .i64 n, .int .i64 f, .int .u64 (s 0), .int .u64 (s 1), .int .u64 (s 2), .int .u64 (s 3), .int .u64 (s 4), .int .u64 (s 5), .int .u64 (s 6), .int .u64 (s 7), .int .i64 c, .int .i64 cells, .int .i64 ring, .slice a len cap] ∧ Wds s ∧ Grid w a len 6 q ∧ len ≤ cap ∧ cap ≤ maxLen ∧ (∀ i j, (Lit.int .i64 (q i j)).wf = true) ∧ InD d len := by
  obtain ⟨l, rfl, hl, hf⟩ := open_agg (n := 6) (ts := [3, 2, 43, 43, 43, 43, 43, 43, 43, 43, 3, 3, 3, 62]) (.inl ⟨_, Try.underlying64⟩) (by kernel_rfl) hv h
  obtain ⟨fuel, hfu⟩ := h
  match l, hl with
  | [x0, x1, x2, x3, x4, x5, x6, x7, x8, x9, x10, x11, x12, x13], _ =>
    obtain ⟨n, rfl, hn⟩ := leaf_int Try.underlying3 (hf 0 _ x0 rfl rfl)
    obtain ⟨f, rfl, hf'⟩ := leaf_int Try.underlying2 (hf 1 _ x1 rfl rfl)
    obtain ⟨a0, rfl, k0⟩ := leaf_int Try.underlying43 (hf 2 _ x2 rfl rfl)
    obtain ⟨a1, rfl, k1⟩ := leaf_int Try.underlying43 (hf 3 _ x3 rfl rfl)
    obtain ⟨a2, rfl, k2⟩ := leaf_int Try.underlying43 (hf 4 _ x4 rfl rfl)
    obtain ⟨a3, rfl, k3⟩ := leaf_int Try.underlying43 (hf 5 _ x5 rfl rfl)
    obtain ⟨a4, rfl, k4⟩ := leaf_int Try.underlying43 (hf 6 _ x6 rfl rfl)
    obtain ⟨a5, rfl, k5⟩ := leaf_int Try.underlying43 (hf 7 _ x7 rfl rfl)
    obtain ⟨a6, rfl, k6⟩ := leaf_int Try.underlying43 (hf 8 _ x8 rfl rfl)
    obtain ⟨a7, rfl, k7⟩ := leaf_int Try.underlying43 (hf 9 _ x9 rfl rfl)
    obtain ⟨c, rfl, _⟩ := leaf_int Try.underlying3 (hf 10 _ x10 rfl rfl)
    obtain ⟨cells, rfl, _⟩ := leaf_int Try.underlying3 (hf 11 _ x11 rfl rfl)
    obtain ⟨ring, rfl, _⟩ := leaf_int Try.underlying3 (hf 12 _ x12 rfl rfl)
    obtain ⟨m, y, hy, hin⟩ := field_in (st := 62) (j := 6) (o := 13) Try.underlying64 (by kernel_rfl) (by kernel_rfl) hfu (v := x13) rfl
    obtain ⟨a, len, cap, q, rfl, g1, g2, g3, g4, g5⟩ := open_gridS (sz := 6) Try.underlying62 flatAct9 (by kernel_rfl) rfl (Nat.succ_pos 5) intsAct9 hy
    obtain ⟨s, hs, rfl, rfl, rfl, rfl, rfl, rfl, rfl, rfl⟩ := sig8 a0 a1 a2 a3 a4 a5 a6 a7 k0 k1 k2 k3 k4 k5 k6 k7
    exact ⟨n, f, s, c, cells, ring, a, len, cap, q, rfl, hs, g1, g2, g3, g4, hin _ g5⟩
theorem fetchPlays_sized {ts : List TypeId} {ds : List (DataW H)} {i : Nat} {d : DataW H} {p : List MemPlace} {v : Value} {a : Option Addr} {len cap : Nat} (hz : (DataW.weightsEach Try.prog ts ds).all (· ≤ reachBytes) = true) (ht : ts[i]? = some 64) (hd : ds[i]? = some d) (h : DataW.Trod enc Try.prog w base spare held 64 v d p) (hv : v.cells.toList[13]? = some (.slice a len cap)) : len ≤ 2932031007402 := by
  have h1 := sized_field (st := 62) (j := 6) (o := 13) (B := 48) Try.underlying64 (by kernel_rfl) (by kernel_rfl) Try.underlying62 (by kernel_rfl) hz ht hd h hv
  omega
end
end Go.Proofs.Ytcbjbmbibnmohaa
