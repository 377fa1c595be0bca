/- Contracts of layer 2 (sig): Has, Empty. -/
import Derived.Test.YtojkeahffabifaaC2e
import Derived.Deep.RegionHeld3
namespace Go.Proofs.Ytojkeahffabifaa
open Go.RowKit
set_option linter.unusedVariables false
theorem sig_has_eq (s : Nat → Int) (hs : Wds s) (c : Int) : sigEq (withS s c) s = hasS s c := by
  rw [Bool.eq_iff_iff, sigEq_iff]
  unfold hasS
  constructor
  · intro h
    have e := bitB_putB s (hashN c) (hashN c)
    have h2 := h (hashN c / 64) (by have := hashN_lt c; omega)
    have e2 : bitB (putB s (hashN c)) (hashN c) = bitB s (hashN c) := by
      unfold bitB; unfold withS at h2; rw [h2]
    rw [e2] at e
    simpa using e
  · intro h
    apply eq_of_bits (withS_wds hs c) hs
    intro k _
    unfold withS
    rw [bitB_putB]
    by_cases hk : k = hashN c
    · subst hk; simp [h]
    · simp [hk]
theorem box_cells (s : Nat → Int) (w : World) (T : TypeId) : ∃ wb, wb = w.alloc (.cells #[.int .u64 (s 0), .int .u64 (s 1), .int .u64 (s 2), .int .u64 (s 3), .int .u64 (s 4), .int .u64 (s 5), .int .u64 (s 6), .int .u64 (s 7)] T) ∧ wb.cell? ⟨w.heap.size, 0, none⟩ = some (.int .u64 (s 0)) ∧ wb.cell? ⟨w.heap.size, 1, none⟩ = some (.int .u64 (s 1)) ∧ wb.cell? ⟨w.heap.size, 2, none⟩ = some (.int .u64 (s 2)) ∧ wb.cell? ⟨w.heap.size, 3, none⟩ = some (.int .u64 (s 3)) ∧ wb.cell? ⟨w.heap.size, 4, none⟩ = some (.int .u64 (s 4)) ∧ wb.cell? ⟨w.heap.size, 5, none⟩ = some (.int .u64 (s 5)) ∧ wb.cell? ⟨w.heap.size, 6, none⟩ = some (.int .u64 (s 6)) ∧ wb.cell? ⟨w.heap.size, 7, none⟩ = some (.int .u64 (s 7)) ∧ Below w.heap.size w wb ∧ w.heap.size < wb.heap.size :=
  ⟨_, rfl, by simp, by simp, by simp, by simp, by simp, by simp, by simp, by simp, (Below.refl _ _).alloc (Nat.le_refl _) _, by simp⟩
end Go.Proofs.Ytojkeahffabifaa
