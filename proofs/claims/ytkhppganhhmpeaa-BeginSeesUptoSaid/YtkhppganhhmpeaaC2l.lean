/- Contracts of layer 2: Empty by the reference; Meets. -/
import Derived.Test.YtkhppganhhmpeaaC2k
namespace Go.Proofs.Ytkhppganhhmpeaa
open Go.RowKit
set_option linter.unusedVariables false
theorem empty_bits (s : Nat → Int) (hs : Wds s) : ((((bitsI s 512).length : Nat) : Int) == 0) = sigEq s noS := by
  rw [Bool.eq_iff_iff, sigEq_iff]
  simp only [beq_iff_eq]
  constructor
  · intro h
    apply eq_of_bits hs noS_wds
    intro k hk
    rw [bitB_noS]
    have hn : bitsI s 512 = [] := List.eq_nil_of_length_eq_zero (by omega)
    unfold bitsI at hn
    rw [List.map_eq_nil_iff, List.filter_eq_nil_iff] at hn
    have := hn k (by simp [hk])
    simpa using this
  · intro h
    have hb : ∀ k, k < 512 → bitB s k = false := fun k hk => by
      have e : bitB s k = bitB noS k := by unfold bitB; rw [h (k / 64) (by omega)]
      rw [e, bitB_noS]
    have hn : bitsI s 512 = [] := by
      unfold bitsI
      rw [List.map_eq_nil_iff, List.filter_eq_nil_iff]
      intro k hk
      simp [hb k (by simpa using hk)]
    rw [hn]; rfl
theorem heap1_0 (w : World) (o : Obj) : (w.alloc o).heap[w.heap.size]? = some o := by
  show (w.heap.push o)[w.heap.size]? = _
  simp
end Go.Proofs.Ytkhppganhhmpeaa
