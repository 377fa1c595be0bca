/- Layer 11: how BackOrder's argument is read. -/
import Derived.Test.YtlmnljijpgpmiaaW11o
namespace Go.Proofs.Ytlmnljijpgpmiaa
open Go.ChangeShapes Go.WideShapes Go.Deep Go.RowKit
section
variable {H : Type} {P : Program} {enc : TypeId × Value → H} {w : World} {base : Nat} {spare : Nat → Bool} {held : Bool}
theorem open_boolsS {n : Nat} {t e : TypeId} {v : Value} {fuel : Nat} {y : DataW H × List MemPlace} (ht : P.underlying t = some (.slice e)) (hfl : flat P n e = some [e])
    (hC : P.cellsOf e = 1) (hbool : P.underlying e = some .bool) (hf : DataW.trod enc P w base spare held fuel t [v] = some y) :
    ∃ (a : Option Addr) (len cap : Nat) (q : Nat → Bool), v = .slice a len cap ∧ (len = 0 ∨ ∃ b off, a = some ⟨b, off, none⟩ ∧ b < w.heap.size ∧ ∀ i, i < len → w.cell? ⟨b, off + i, none⟩ = some (.bool (q i))) ∧ InD y.1 len := by
  rcases open_slice ht hf with ⟨he, hy⟩ | ⟨a', len, cap, m, n', D, Pl, he, _, hlc, hcm, hm, hy, hel⟩
  · simp only [List.cons.injEq, and_true] at he
    subst he
    exact ⟨none, 0, 0, fun _ => false, rfl, .inl rfl, .zero _⟩
  · simp only [List.cons.injEq, and_true] at he
    subst he
    have hin : InD y.1 len := by
      rw [hy]
      have := InD.slice ((List.range len).map D) ((List.range (m - len)).map fun j => D (len + j))
      simpa using this
    have hge : len ≤ m := by rw [hm]; split <;> omega
    have key : ∀ i, i < len → ∃ x, w.cell? (a'.add i) = some (.bool x) := by
      intro i hi
      obtain ⟨cs', hcs, htr⟩ := hel i (by omega)
      obtain ⟨_, hlen, hat⟩ := World.cells?_some hcs
      obtain ⟨hl2, hleaf⟩ := flat_leaves n e [e] n' cs' _ hfl htr
      rw [hC] at hlen hat
      have hx : cs'[0]? = some (cs'[0]'(by omega)) := List.getElem?_eq_getElem (by omega)
      obtain ⟨x, hxv⟩ := leaf_bool hbool (hleaf 0 e _ rfl hx)
      refine ⟨x, ?_⟩
      have h0 := hat 0 (by omega)
      rw [hx, hxv] at h0
      rw [← h0, Go.Deep.add_add]
      simp
    obtain ⟨q, hq⟩ : ∃ q : Nat → Bool, ∀ i, i < len → w.cell? (a'.add i) = some (.bool (q i)) := by
      refine ⟨fun i => if h : i < len then (key i h).choose else false, fun i hi => ?_⟩
      simp only [dif_pos hi]
      exact (key i hi).choose_spec
    clear key
    refine ⟨some a', len, cap, q, rfl, ?_, hin⟩
    rcases Nat.eq_zero_or_pos len with h0 | h0
    · exact .inl h0
    · right
      have hx := hq 0 h0
      have e0 : a'.add 0 = a' := by
        obtain ⟨b, off, spot⟩ := a'
        simp [Addr.add]
      rw [e0] at hx
      obtain ⟨hs, hb⟩ := cell_nospot hx
      obtain ⟨b, off, spot⟩ := a'
      simp only at hs
      subst hs
      refine ⟨b, off, rfl, hb, fun i hi => ?_⟩
      have hk := hq i hi
      rw [add_spot] at hk
      exact hk
end
section
variable {H : Type} {enc : TypeId × Value → H} {w : World} {base : Nat} {spare : Nat → Bool} {held : Bool}
theorem intsWr11 : ∀ u ∈ [3, 2], Try.prog.underlying u = some (.int .i64) := by
  intro u hu
  simp only [List.mem_cons, List.not_mem_nil, or_false] at hu
  rcases hu with h | h <;> rw [h]
  · exact Try.underlying3
  · exact Try.underlying2
set_option maxRecDepth 100000 in
theorem open_backOrder {r : Reach} {b0 : Nat} {v : Value} {d : DataW H} {p : List MemPlace} (hv : Value.okWide Try.prog w r b0 54 v) (h : DataW.Trod enc Try.prog w base spare held 54 v d p) :
    ∃ (raw : Int) (a1 : Option Addr) (l1 c1 : Nat) (q1 : Nat → Nat → Int) (a2 : Option Addr) (l2 c2 : Nat) (q2 : Nat → Nat → Int) (a3 : Option Addr) (T c3 : Nat) (q3 : Nat → Bool), v = .agg #[.int .i64 raw, .slice a1 l1 c1, .slice a2 l2 c2, .slice a3 T c3] ∧ Grid w a1 l1 2 q1 ∧ (∀ i j, I64 (q1 i j)) ∧ Grid w a2 l2 2 q2 ∧ (∀ i j, I64 (q2 i j)) ∧
      (T = 0 ∨ ∃ b off, a3 = some ⟨b, off, none⟩ ∧ b < w.heap.size ∧ ∀ i, i < T → w.cell? ⟨b, off + i, none⟩ = some (.bool (q3 i))) ∧ l1 ≤ 9223372036854775807 ∧ l2 ≤ 9223372036854775807 ∧ InD d T := by
  obtain ⟨l, rfl, hl, hf⟩ := open_agg (n := 6) (ts := [3, 22, 22, 52]) (.inl ⟨_, Try.underlying54⟩) (by kernel_rfl) hv h
  obtain ⟨fuel, hfu⟩ := h
  match l, hl with
  | [x0, x1, x2, x3], _ =>
    obtain ⟨raw, rfl, _⟩ := leaf_int Try.underlying3 (hf 0 _ x0 rfl rfl)
    obtain ⟨m1, y1, hy1, hin1⟩ := field_in (st := 22) (j := 1) (o := 1) Try.underlying54 (by kernel_rfl) (by kernel_rfl) hfu (v := x1) rfl
    obtain ⟨m2, y2, hy2, hin2⟩ := field_in (st := 22) (j := 2) (o := 2) Try.underlying54 (by kernel_rfl) (by kernel_rfl) hfu (v := x2) rfl
    obtain ⟨m3, y3, hy3, hin3⟩ := field_in (st := 52) (j := 3) (o := 3) Try.underlying54 (by kernel_rfl) (by kernel_rfl) hfu (v := x3) rfl
    obtain ⟨a1, l1, c1, q1, rfl, g1, g2, g3, g4, g5⟩ := open_gridS (n := 6) (sz := 2) (ts := [3, 2]) Try.underlying22 (by kernel_rfl) (by kernel_rfl) rfl (by decide) intsWr11 hy1
    obtain ⟨a2, l2, c2, q2, rfl, k1, k2, k3, k4, k5⟩ := open_gridS (n := 6) (sz := 2) (ts := [3, 2]) Try.underlying22 (by kernel_rfl) (by kernel_rfl) rfl (by decide) intsWr11 hy2
    obtain ⟨a3, T, c3, q3, rfl, t1, t2⟩ := open_boolsS (n := 6) Try.underlying52 (by kernel_rfl) (by kernel_rfl) Try.underlying4 hy3
    exact ⟨raw, a1, l1, c1, q1, a2, l2, c2, q2, a3, T, c3, q3, rfl, g1, fun i j => I64.of_wf (g4 i j), k1, fun i j => I64.of_wf (k4 i j), t1, by unfold maxLen at g3; omega, by unfold maxLen at k3; omega, hin3 _ t2⟩
end
end Go.Proofs.Ytlmnljijpgpmiaa
