/- Plain: signatures as eight words. -/
import Derived.Test.YtojkeahffabifaaS1
namespace Go.Proofs.Ytojkeahffabifaa
open Go.RowKit
/-- Each of the words fits 64 bits. -/
def Wds (s : Nat → Int) : Prop := ∀ i, 0 ≤ s i ∧ s i < 18446744073709551616
/-- The signature with the bit k. -/
def putB (s : Nat → Int) (k : Nat) : Nat → Int := fun i => if i = k / 64 then (((s i).toNat ||| 2 ^ (k % 64) : Nat) : Int) else s i
def bitB (s : Nat → Int) (k : Nat) : Bool := (s (k / 64)).toNat.testBit (k % 64)
noncomputable def hashN (c : Int) : Nat := (sigHashZ c).toNat
noncomputable def withS (s : Nat → Int) (c : Int) : Nat → Int := putB s (hashN c)
noncomputable def hasS (s : Nat → Int) (c : Int) : Bool := bitB s (hashN c)
def noS : Nat → Int := fun _ => 0
theorem hashN_lt (c : Int) : hashN c < 512 := by have := sigHashZ_range c; unfold hashN; omega
theorem hashN_eq (c : Int) : sigHashZ c = (hashN c : Int) := by have := sigHashZ_range c; unfold hashN; omega
theorem two_pow_lt64 (j : Nat) (h : j < 64) : 2 ^ j < 18446744073709551616 := by
  have := Nat.pow_lt_pow_right (a := 2) (by decide) h
  exact Nat.lt_of_lt_of_le this (by decide)
theorem or_lt64 (a b : Nat) (ha : a < 18446744073709551616) (hb : b < 18446744073709551616) : a ||| b < 18446744073709551616 := Nat.or_lt_two_pow (n := 64) ha hb
theorem putB_wds {s : Nat → Int} (h : Wds s) (k : Nat) : Wds (putB s k) := by
  intro i
  unfold putB
  split
  · have h1 := h i
    have h2 := or_lt64 (s i).toNat (2 ^ (k % 64)) (by omega) (two_pow_lt64 _ (Nat.mod_lt _ (by decide)))
    omega
  · exact h i
theorem withS_wds {s : Nat → Int} (h : Wds s) (c : Int) : Wds (withS s c) := putB_wds h _
theorem noS_wds : Wds noS := fun _ => by unfold noS; omega
theorem putB_ne (s : Nat → Int) (k i : Nat) (h : i ≠ k / 64) : putB s k i = s i := by unfold putB; rw [if_neg h]
theorem and63_i64 (q : Int) (h0 : 0 ≤ q) (h1 : q < 512) : bits .and .i64 q 63 = q % 64 := by
  unfold bits
  rw [IntKind.wrap_i64]
  have : (BitVec.ofInt IntKind.i64.bits q &&& BitVec.ofInt IntKind.i64.bits 63).toNat = (q % 18446744073709551616).toNat % 64 := by
    show (BitVec.ofInt 64 q &&& BitVec.ofInt 64 63).toNat = _
    rw [BitVec.toNat_and, ofInt64_toNat, ofInt64_toNat]
    exact nat_mask6 _
  simp only [this]
  omega
theorem put_walk (s : Nat → Int) (h : Wds s) (k i : Nat) (hk : k < 512) (hi : k / 64 = i) :
    bits .or .u64 (s i) (IntKind.u64.wrap (2 ^ (bits .and .i64 (k : Int) 63).toNat)) = putB s k i := by
  have e1 : (bits .and .i64 (k : Int) 63).toNat = k % 64 := by rw [and63_i64 _ (by omega) (by omega)]; omega
  have h2 := two_pow_lt64 (k % 64) (Nat.mod_lt _ (by decide))
  have e2 : IntKind.u64.wrap (2 ^ (k % 64)) = ((2 ^ (k % 64) : Nat) : Int) := by
    rw [u64_wrap]
    have : ((2 : Int) ^ (k % 64)) = ((2 ^ (k % 64) : Nat) : Int) := by rw [Int.natCast_pow]; rfl
    rw [this]
    generalize 2 ^ (k % 64) = p at h2
    exact Int.emod_eq_of_lt (Int.natCast_nonneg _) (by omega)
  have hs := h i
  rw [e1, e2]
  unfold putB
  rw [if_pos hi.symm]
  obtain ⟨a, ha⟩ := Int.eq_ofNat_of_zero_le hs.1
  rw [ha, u64_or_nat _ _ (by omega) h2, Int.toNat_natCast]
theorem put_walkZ (s : Nat → Int) (h : Wds s) (c q : Int) (i : Nat) (hq : sigHashZ c = q) (hi : q / 64 = i) :
    bits .or .u64 (s i) (IntKind.u64.wrap (2 ^ (bits .and .i64 q 63).toNat)) = withS s c i := by
  have hr := sigHashZ_range c
  obtain ⟨k, rfl⟩ : ∃ k : Nat, q = k := ⟨q.toNat, by omega⟩
  have hk : hashN c = k := by unfold hashN; omega
  rw [put_walk s h k i (by omega) (by omega)]; unfold withS; rw [hk]
theorem with_ne (s : Nat → Int) (c q : Int) (i j : Nat) (hq : sigHashZ c = q) (hi : q / 64 = i) (hj : j ≠ i) : withS s c j = s j := by
  have hr := sigHashZ_range c
  unfold withS hashN
  exact putB_ne s _ j (by omega)
/-- Bit by bit. -/
theorem bitB_putB (s : Nat → Int) (k j : Nat) : bitB (putB s k) j = (bitB s j || decide (j = k)) := by
  unfold bitB putB
  split
  · rename_i h
    rw [Int.toNat_natCast, Nat.testBit_or, Nat.testBit_two_pow]
    congr 1
    rw [decide_eq_decide]
    omega
  · rename_i h
    have : j ≠ k := fun e => h (by rw [e])
    simp [this]
theorem bit_div (s : Nat → Int) (h : Wds s) (k : Nat) : (s (k / 64) / 2 ^ (k % 64) % 2 == 1) = bitB s k := by
  have h1 := h (k / 64)
  unfold bitB
  obtain ⟨a, ha⟩ := Int.eq_ofNat_of_zero_le h1.1
  rw [ha, Int.toNat_natCast, Nat.testBit_eq_decide_div_mod_eq]
  have e : ((a : Int) / 2 ^ (k % 64) % 2) = ((a / 2 ^ (k % 64) % 2 : Nat) : Int) := by
    rw [Int.natCast_emod, Int.natCast_ediv, Int.natCast_pow]; rfl
  rw [e, Bool.eq_iff_iff]
  simp only [beq_iff_eq, decide_eq_true_eq]
  omega
theorem putB_of_bit (s : Nat → Int) (h : Wds s) (k : Nat) (hb : bitB s k = true) : ∀ i, putB s k i = s i := by
  intro i
  unfold putB
  split
  · rename_i hi
    subst hi
    have h1 := h (k / 64)
    unfold bitB at hb
    have e : (s (k / 64)).toNat ||| 2 ^ (k % 64) = (s (k / 64)).toNat := by
      apply Nat.eq_of_testBit_eq
      intro j
      rw [Nat.testBit_or, Nat.testBit_two_pow]
      by_cases hj : k % 64 = j
      · subst hj; simp [hb]
      · simp [hj]
    rw [e]; omega
  · rfl
theorem or_add (a i : Nat) (h : a / 2 ^ i % 2 = 0) : a ||| 2 ^ i = a + 2 ^ i := by
  have hp := Nat.two_pow_pos i
  have d := Nat.div_add_mod a (2 ^ i)
  have hlt := Nat.mod_lt a hp
  have j1 := nat_join i (2 ^ i * (a / 2 ^ i)) (a % 2 ^ i) (Nat.mul_mod_right _ _) hlt
  have e1 : 2 ^ i * (a / 2 ^ i) = 2 ^ (i + 1) * (a / 2 ^ i / 2) := by
    rw [Nat.pow_succ, Nat.mul_assoc]; congr 1; omega
  have j2 := nat_join (i + 1) (2 ^ i * (a / 2 ^ i)) (2 ^ i) (by rw [e1]; exact Nat.mul_mod_right _ _) (by rw [Nat.pow_succ]; omega)
  have j3 := nat_join i (2 ^ i * (a / 2 ^ i) + 2 ^ i) (a % 2 ^ i) (by rw [Nat.mul_add_mod, Nat.mod_self]) hlt
  have c : a ||| 2 ^ i = (2 ^ i * (a / 2 ^ i) ||| 2 ^ i) ||| a % 2 ^ i := by
    conv => lhs; rw [← d, ← j1]
    rw [Nat.or_assoc, Nat.or_comm (a % 2 ^ i), ← Nat.or_assoc]
  rw [c, j2, j3]
  omega
theorem put_add (s : Nat → Int) (h : Wds s) (k : Nat) (hb : bitB s k = false) (p : Int) (hp : p = 2 ^ (k % 64)) : IntKind.u64.wrap (s (k / 64) + p) = putB s k (k / 64) := by
  have h1 := h (k / 64)
  have hw := putB_wds h k (k / 64)
  unfold putB at hw ⊢
  rw [if_pos rfl] at hw ⊢
  unfold bitB at hb
  obtain ⟨a, ha⟩ := Int.eq_ofNat_of_zero_le h1.1
  rw [ha, Int.toNat_natCast] at hw hb ⊢
  have e : a ||| 2 ^ (k % 64) = a + 2 ^ (k % 64) := by
    rw [Nat.testBit_eq_decide_div_mod_eq] at hb
    have hz : a / 2 ^ (k % 64) % 2 = 0 := by
      have := of_decide_eq_false hb
      omega
    exact or_add a (k % 64) hz
  have hp2 : p = ((2 ^ (k % 64) : Nat) : Int) := by rw [hp, Int.natCast_pow]; rfl
  rw [hp2]
  rw [e] at hw ⊢
  generalize 2 ^ (k % 64) = q at *
  rw [u64_wrap]
  omega
theorem eq_of_bits {s t : Nat → Int} (hs : Wds s) (ht : Wds t) (h : ∀ k, k < 512 → bitB s k = bitB t k) : ∀ i, i < 8 → s i = t i := by
  intro i hi
  have h1 := hs i
  have h2 := ht i
  have e : (s i).toNat = (t i).toNat := by
    apply Nat.eq_of_testBit_eq
    intro j
    by_cases hj : j < 64
    · have := h (64 * i + j) (by omega)
      unfold bitB at this
      rwa [show (64 * i + j) / 64 = i by omega, show (64 * i + j) % 64 = j by omega] at this
    · have hb : ∀ n : Nat, n < 18446744073709551616 → n.testBit j = false := fun n hn =>
        Nat.testBit_lt_two_pow (Nat.lt_of_lt_of_le hn (by have := Nat.pow_le_pow_right (n := 2) (by decide) (show 64 ≤ j by omega); exact this))
      rw [hb _ (by omega), hb _ (by omega)]
  omega
end Go.Proofs.Ytojkeahffabifaa
