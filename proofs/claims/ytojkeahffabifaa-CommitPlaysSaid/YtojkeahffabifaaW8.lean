/- Layer 8: the law's own shown. -/
import Derived.Test.YtojkeahffabifaaG0
import Derived.Test.YtojkeahffabifaaC8d
import Derived.Test.YtojkeahffabifaaC2h
import Derived.Test.YtojkeahffabifaaC3g
namespace Go.Proofs.Ytojkeahffabifaa
open Go.RowKit
set_option linter.unusedVariables false
theorem nextW_skip {rs : Nat → Int} {b : Nat} (hb : b ≤ 8) : ∀ (n a : Nat), b - a = n → a ≤ b → (∀ i, a ≤ i → i < b → rs i = 0) → nextW rs a = nextW rs b
  | 0, a, hn, hab, h => by rw [show a = b by omega]
  | n + 1, a, hn, hab, h => by
    rw [nextW_zero (by omega) (h a (Nat.le_refl _) (by omega))]
    exact nextW_skip hb n (a + 1) (by omega) (by omega) (fun i h1 h2 => h i (by omega) h2)
theorem one_word (c : Int) : ∃ j, j < 8 ∧ nextW (ofS [c]) 0 = j ∧ nextW (ofS [c]) (j + 1) = 8 := by
  have hk := hashN_lt c
  have e : ofS [c] = putB noS (hashN c) := rfl
  refine ⟨hashN c / 64, by omega, ?_, ?_⟩
  · rw [e, nextW_skip (b := hashN c / 64) (by omega) _ 0 rfl (Nat.zero_le _) (fun i _ h2 => by rw [putB_ne _ _ _ (by omega)]; rfl)]
    refine nextW_here (by omega) ?_
    unfold putB noS
    rw [if_pos rfl]
    have hp : 2 ^ (hashN c % 64) ≠ 0 := Nat.ne_of_gt (Nat.pow_pos (by decide))
    show (((0 : Int).toNat ||| 2 ^ (hashN c % 64) : Nat) : Int) ≠ 0
    rw [show (0 : Int).toNat = 0 from rfl, Nat.zero_or]
    generalize 2 ^ (hashN c % 64) = q at hp
    omega
  · rw [e, nextW_skip (b := 8) (Nat.le_refl _) _ _ rfl (by omega) (fun i h1 h2 => by rw [putB_ne _ _ _ (by omega)]; rfl)]
    exact nextW_end _
theorem and_zero (x : Int) : bits .and .u64 (IntKind.u64.wrap 0) x = 0 := by
  have e : IntKind.u64.wrap 0 = 0 := by rw [u64_wrap]; rfl
  rw [e]
  unfold bits
  have h0 : (BitVec.ofInt IntKind.u64.bits 0 &&& BitVec.ofInt IntKind.u64.bits x) = 0#64 := BitVec.zero_and
  simp only [h0]
  rw [u64_wrap]; rfl
end Go.Proofs.Ytojkeahffabifaa
