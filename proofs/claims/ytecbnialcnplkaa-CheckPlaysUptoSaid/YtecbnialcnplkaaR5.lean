/- How an argument is read that is a slice of structs of integers. Of whatever program. -/
import Derived.Test.YtecbnialcnplkaaR1
namespace Go.Proofs.Ytecbnialcnplkaa
open Go.ChangeShapes Go.WideShapes Go.Deep
section
variable {H : Type} {enc : TypeId × Value → H} {P : Program} {w : World} {base : Nat} {spare : Nat → Bool} {held : Bool}
/-- A slice of elements of sz integers each: the numbers are q i j. -/
def Grid (w : World) (a : Option Addr) (len sz : Nat) (q : Nat → Nat → Int) : Prop :=
  len = 0 ∨ ∃ b off, a = some ⟨b, off, none⟩ ∧ b < w.heap.size ∧ ∀ i, i < len → ∀ j, j < sz → w.cell? ⟨b, off + i * sz + j, none⟩ = some (.int .i64 (q i j))
theorem Grid.below {w w' : World} {a : Option Addr} {len sz : Nat} {q : Nat → Nat → Int} (h : Grid w a len sz q) (hb : Go.RowKit.Below w.heap.size w w') : Grid w' a len sz q :=
  h.elim .inl fun ⟨b, off, e, hlt, hc⟩ => .inr ⟨b, off, e, Nat.lt_of_lt_of_le hlt hb.size, fun i hi j hj => (hb.cell (p := ⟨b, off + i * sz + j, none⟩) hlt).trans (hc i hi j hj)⟩
theorem cell_nospot {w : World} {a : Addr} {v : Value} (h : w.cell? a = some v) : a.spot = none ∧ a.block < w.heap.size := by
  refine ⟨?_, World.block_lt_of_cell? w _ h⟩
  obtain ⟨b, off, spot⟩ := a
  cases spot with
  | none => rfl
  | some k =>
    exfalso
    unfold World.cell? at h
    split at h
    · simp at h
    · cases h
theorem add_spot (b off : Nat) (i : Nat) : (Addr.mk b off none).add i = ⟨b, off + i, none⟩ := by
  unfold Addr.add
  split <;> simp_all
theorem open_grid {r : Reach} {b0 n sz : Nat} {t e : TypeId} {ts : List TypeId} {v : Value} {d : DataW H} {p : List MemPlace} (ht : P.underlying t = some (.slice e)) (hfl : flat P n e = some ts)
    (hC : P.cellsOf e = sz) (hts : ts.length = sz) (hsz : 0 < sz) (hint : ∀ u ∈ ts, P.underlying u = some (.int .i64)) (hv : Value.okWide P w r b0 t v) (h : DataW.Trod enc P w base spare held t v d p) :
    ∃ a len cap q, v = .slice a len cap ∧ Grid w a len sz q ∧ len ≤ cap ∧ cap ≤ maxLen ∧ ∀ i j, (Lit.int .i64 (q i j)).wf = true := by
  obtain ⟨a, len, cap, rfl⟩ := okWide_slice ht hv
  obtain ⟨fuel, hf⟩ := h
  rcases open_slice ht hf with ⟨he, _⟩ | ⟨a', len', cap', m, n', D, Pl, he, _, hlc, hcm, hm, _, hel⟩
  · simp only [Value.cells, List.cons.injEq, and_true, Value.slice.injEq] at he
    obtain ⟨rfl, rfl, rfl⟩ := he
    exact ⟨none, 0, 0, fun _ _ => 0, rfl, .inl rfl, Nat.le_refl _, Nat.zero_le _, fun _ _ => rfl⟩
  · simp only [Value.cells, List.cons.injEq, and_true, Value.slice.injEq] at he
    obtain ⟨rfl, rfl, rfl⟩ := he
    have hge : len ≤ m := by rw [hm]; split <;> omega
    have key : ∀ i, i < len → ∀ j, j < sz → ∃ x, w.cell? (a'.add (i * sz + j)) = some (.int .i64 x) ∧ (Lit.int .i64 x).wf = true := by
      intro i hi j hj
      obtain ⟨cs', hcs, htr⟩ := hel i (by omega)
      obtain ⟨_, hlen, hat⟩ := World.cells?_some hcs
      obtain ⟨hl2, hleaf⟩ := flat_leaves n e ts n' cs' _ hfl htr
      rw [hC] at hlen hat
      have hu : ts[j]? = some (ts[j]'(by omega)) := List.getElem?_eq_getElem (by omega)
      have hx : cs'[j]? = some (cs'[j]'(by omega)) := List.getElem?_eq_getElem (by omega)
      obtain ⟨x, hxv, hw⟩ := leaf_int (hint _ (List.getElem_mem _)) (hleaf j _ _ hu hx)
      refine ⟨x, ?_, hw⟩
      rw [← Go.Deep.add_add, hat j hj, hx, hxv]
    obtain ⟨q, hq, hw⟩ : ∃ q : Nat → Nat → Int, (∀ i, i < len → ∀ j, j < sz → w.cell? (a'.add (i * sz + j)) = some (.int .i64 (q i j))) ∧ ∀ i j, (Lit.int .i64 (q i j)).wf = true := by
      refine ⟨fun i j => if h : i < len ∧ j < sz then (key i h.1 j h.2).choose else 0, fun i hi j hj => ?_, fun i j => ?_⟩
      · simp only [dif_pos (And.intro hi hj)]
        exact (key i hi j hj).choose_spec.1
      · dsimp only
        split
        · rename_i h
          exact (key i h.1 j h.2).choose_spec.2
        · rfl
    clear key
    refine ⟨some a', len, cap, q, rfl, ?_, hlc, hcm, hw⟩
    rcases Nat.eq_zero_or_pos len with h0 | h0
    · exact .inl h0
    · right
      have hx := hq 0 h0 0 hsz
      have e0 : a'.add (0 * sz + 0) = a' := by
        obtain ⟨b, off, spot⟩ := a'
        simp [Addr.add]
      rw [e0] at hx
      obtain ⟨hs, hb⟩ := cell_nospot hx
      obtain ⟨b, off, spot⟩ := a'
      simp only at hs
      subst hs
      refine ⟨b, off, rfl, hb, fun i hi j hj => ?_⟩
      have hk := hq i hi j hj
      rw [add_spot] at hk
      rw [Nat.add_assoc]
      exact hk
end
end Go.Proofs.Ytecbnialcnplkaa
