/- Contracts of layer 2: Empty by the reference; Meets. -/
import Derived.Test.YtecbnialcnplkaaC2k
namespace Go.Proofs.Ytecbnialcnplkaa
open Go.RowKit
set_option linter.unusedVariables false
theorem empty_bits (s : Nat → Int) (hs : Wds s) : ((((bitsI s 512).length : Nat) : Int) == 0) = sigEq s noS := by
  rw [Bool.eq_iff_iff, sigEq_iff]
  simp only [beq_iff_eq]
  constructor
  · intro h
    apply eq_of_bits hs noS_wds
    intro k hk
    rw [bitB_noS]
    have hn : bitsI s 512 = [] := List.eq_nil_of_length_eq_zero (by omega)
    unfold bitsI at hn
    rw [List.map_eq_nil_iff, List.filter_eq_nil_iff] at hn
    have := hn k (by simp [hk])
    simpa using this
  · intro h
    have hb : ∀ k, k < 512 → bitB s k = false := fun k hk => by
      have e : bitB s k = bitB noS k := by unfold bitB; rw [h (k / 64) (by omega)]
      rw [e, bitB_noS]
    have hn : bitsI s 512 = [] := by
      unfold bitsI
      rw [List.map_eq_nil_iff, List.filter_eq_nil_iff]
      intro k hk
      simp [hb k (by simpa using hk)]
    rw [hn]; rfl
theorem heap1_0 (w : World) (o : Obj) : (w.alloc o).heap[w.heap.size]? = some o := by
  show (w.heap.push o)[w.heap.size]? = _
  simp
theorem refEmpty_any (s : Nat → Int) (hs : Wds s) (w : World) : Calls Try.prog 55 #[(.agg #[.int .u64 (s 0), .int .u64 (s 1), .int .u64 (s 2), .int .u64 (s 3), .int .u64 (s 4), .int .u64 (s 5), .int .u64 (s 6), .int .u64 (s 7)])] w fun e w' => e = .returned (.bool (sigEq s noS)) ∧ Below w.heap.size w w' := by
  have HE := Lib.hid (empty_bits s hs)
  have HS := Lib.hid hs
  clear hs
  go_enter Try.func55, Try.ntmps55
  go_wp2_with fail
  refine (refBits_any s HS.out _).mono ?_; rintro e w1 ⟨v, rfl, hown, hb⟩
  obtain ⟨a, c, rfl⟩ := own_form hown
  have HB := Lib.hid hb
  clear hb hown
  generalize (bitsI s 512).length = n at *
  go_wp2_with fail
  go_ret
  refine ⟨?_, ((Below.refl _ _).alloc (Nat.le_refl _) _).trans (HB.out.mono (by simp))⟩
  rw [← HE.out]
  simp
theorem refMeets_any (a b : Nat → Int) (ha : Wds a) (hb : Wds b) (w : World) : Calls Try.prog 41 #[(.agg #[.int .u64 (a 0), .int .u64 (a 1), .int .u64 (a 2), .int .u64 (a 3), .int .u64 (a 4), .int .u64 (a 5), .int .u64 (a 6), .int .u64 (a 7)]), (.agg #[.int .u64 (b 0), .int .u64 (b 1), .int .u64 (b 2), .int .u64 (b 3), .int .u64 (b 4), .int .u64 (b 5), .int .u64 (b 6), .int .u64 (b 7)])] w fun e w' => e = .returned (.bool (!sigEq (andS a b) noS)) ∧ Below w.heap.size w w' := by
  have HM : Hid (∀ w, Calls Try.prog 54 #[(.agg #[.int .u64 (a 0), .int .u64 (a 1), .int .u64 (a 2), .int .u64 (a 3), .int .u64 (a 4), .int .u64 (a 5), .int .u64 (a 6), .int .u64 (a 7)]), (.agg #[.int .u64 (b 0), .int .u64 (b 1), .int .u64 (b 2), .int .u64 (b 3), .int .u64 (b 4), .int .u64 (b 5), .int .u64 (b 6), .int .u64 (b 7)])] w fun e w' => e = .returned (.agg #[.int .u64 (andS a b 0), .int .u64 (andS a b 1), .int .u64 (andS a b 2), .int .u64 (andS a b 3), .int .u64 (andS a b 4), .int .u64 (andS a b 5), .int .u64 (andS a b 6), .int .u64 (andS a b 7)]) ∧ Below w.heap.size w w') := fun w => refMeet_any a b ha hb w
  have HE : Hid (∀ w, Calls Try.prog 55 #[(.agg #[.int .u64 (andS a b 0), .int .u64 (andS a b 1), .int .u64 (andS a b 2), .int .u64 (andS a b 3), .int .u64 (andS a b 4), .int .u64 (andS a b 5), .int .u64 (andS a b 6), .int .u64 (andS a b 7)])] w fun e w' => e = .returned (.bool (sigEq (andS a b) noS)) ∧ Below w.heap.size w w') := fun w => refEmpty_any _ (andS_wds ha hb) w
  clear ha hb
  generalize andS a b = g at *
  go_enter Try.func41, Try.ntmps41
  go_wp2_with fail
  refine (HM.out _).mono ?_; rintro e w1 ⟨rfl, hb1⟩
  have HB := Lib.hid hb1
  clear hb1
  go_wp2_with fail
  refine (HE.out _).mono ?_; rintro e w2 ⟨rfl, hb2⟩
  have HB2 := Lib.hid hb2
  clear hb2
  go_wp2_with fail
  go_ret
  refine ⟨rfl, (((Below.refl _ _).alloc (Nat.le_refl _) _).alloc (by simp) _).trans ((HB.out.mono (by simp; omega)).trans (((Below.refl _ _).alloc ?_ _).trans (HB2.out.mono ?_)))⟩
  · have := HB.out.size
    simp at this
    omega
  · have := HB.out.size
    simp at this ⊢
    omega
end Go.Proofs.Ytecbnialcnplkaa
