/- Plain: shifts, turns, smaller numbers. -/
import Derived.Test.YtecbnialcnplkaaS1
namespace Go.Proofs.Ytecbnialcnplkaa
open Go.RowKit
theorem and63_u64 (n : Int) : bits .and .u64 (IntKind.u64.wrap n) 63 = n % 64 := by
  have h := u64_wrap_range n
  rw [u64_and _ _ h.1 h.2 (by decide) (by decide)]
  have e : (IntKind.u64.wrap n).toNat &&& (63 : Int).toNat = (IntKind.u64.wrap n).toNat % 64 := nat_mask6 _
  rw [e, u64_wrap]
  omega
def shlZ (x n : Int) : Int := wrap64 (x * 2 ^ (n % 64).toNat)
def shrZ (x n : Int) : Int := x / 2 ^ (n % 64).toNat
def ushrZ (x n : Int) : Int := wrap64 (IntKind.u64.wrap x / 2 ^ (n % 64).toNat)
theorem shl_step (x : Int) (j : Nat) : wrap64 (wrap64 (x * 2 ^ j) + wrap64 (x * 2 ^ j)) = wrap64 (x * 2 ^ (j + 1)) := by
  have e : x * 2 ^ (j + 1) = x * 2 ^ j * 2 := by rw [Int.pow_succ, Int.mul_assoc]
  rw [e]; unfold wrap64; omega
theorem I64.half {x : Int} (h : I64 x) : I64 (x / 2) := by unfold I64 at *; omega
/-- The word x turned to the left by j places, j at most 64. -/
def turnN (x j : Nat) : Nat := x % 2 ^ (64 - j) * 2 ^ j + x / 2 ^ (64 - j)
theorem turn_parts (j : Nat) (hj : j < 64) : ∃ P Q : Nat, 2 ^ (64 - j) = 2 * P ∧ 2 ^ (64 - (j + 1)) = P ∧ 2 ^ j = Q ∧ 2 ^ (j + 1) = 2 * Q ∧ P * Q = 9223372036854775808 ∧ 0 < P ∧ 0 < Q := by
  refine ⟨2 ^ (63 - j), 2 ^ j, ?_, ?_, rfl, ?_, ?_, Nat.two_pow_pos _, Nat.two_pow_pos _⟩
  · rw [← Nat.pow_succ']; congr 1; omega
  · congr 1; omega
  · rw [Nat.pow_succ']
  · rw [← Nat.pow_add, show 63 - j + j = 63 by omega]
theorem turnN_step (x j : Nat) (hx : x < 18446744073709551616) (hj : j < 64) :
    turnN x (j + 1) = ((turnN x j + turnN x j) % 18446744073709551616 + turnN x j / 9223372036854775808) % 18446744073709551616 ∧ turnN x j < 18446744073709551616 := by
  obtain ⟨P, Q, h1, h2, h3, h4, h5, hP, hQ⟩ := turn_parts j hj
  unfold turnN
  rw [h1, h2, h3, h4]
  have dx : x = (2 * P) * (x / (2 * P)) + x % (2 * P) := (Nat.div_add_mod x (2 * P)).symm
  have lr : x % (2 * P) < 2 * P := Nat.mod_lt _ (by omega)
  generalize x / (2 * P) = q at *
  generalize hr : x % (2 * P) = r at *
  have lq : q < Q := by
    rcases Nat.lt_or_ge q Q with h | h
    · exact h
    · have : (2 * P) * Q ≤ (2 * P) * q := Nat.mul_le_mul_left _ h
      have e : (2 * P) * Q = 2 * (P * Q) := by rw [Nat.mul_assoc]
      omega
  obtain ⟨t, s, ht, hs, rfl⟩ : ∃ t s, t ≤ 1 ∧ s < P ∧ r = t * P + s := by
    rcases Nat.lt_or_ge r P with h | h
    · exact ⟨0, r, by omega, h, by omega⟩
    · exact ⟨1, r - P, by omega, by omega, by omega⟩
  have xd : x / P = 2 * q + t := by
    rw [dx, show 2 * P * q + (t * P + s) = s + P * (2 * q + t) by rw [Nat.mul_add, Nat.mul_comm t P, Nat.mul_comm 2 P, Nat.mul_assoc]; omega, Nat.add_mul_div_left _ _ hP, Nat.div_eq_of_lt hs]
    omega
  have xm : x % P = s := by
    rw [dx, show 2 * P * q + (t * P + s) = s + P * (2 * q + t) by rw [Nat.mul_add, Nat.mul_comm t P, Nat.mul_comm 2 P, Nat.mul_assoc]; omega, Nat.add_mul_mod_self_left, Nat.mod_eq_of_lt hs]
  rw [xd, xm]
  have e1 : (t * P + s) * Q = t * 9223372036854775808 + s * Q := by rw [Nat.add_mul, Nat.mul_assoc, h5]
  have e2 : s * (2 * Q) = 2 * (s * Q) := by rw [Nat.mul_left_comm]
  have e3 : s * Q + Q ≤ 9223372036854775808 := by
    have : (s + 1) * Q ≤ P * Q := Nat.mul_le_mul_right _ hs
    rw [h5, Nat.add_mul] at this
    omega
  rw [e1, e2]
  generalize s * Q = z at *
  clear dx lr hr xd xm e1 e2 h1 h2 h3 h4 h5 hP hs hx
  have y1 : (t * 9223372036854775808 + z + q) / 9223372036854775808 = t := by
    have : t * 9223372036854775808 + z + q = z + q + 9223372036854775808 * t := by omega
    rw [this, Nat.add_mul_div_left _ _ (by decide), Nat.div_eq_of_lt (by omega)]
    omega
  have y2 : (t * 9223372036854775808 + z + q + (t * 9223372036854775808 + z + q)) % 18446744073709551616 = 2 * z + 2 * q := by
    have : t * 9223372036854775808 + z + q + (t * 9223372036854775808 + z + q) = 2 * z + 2 * q + 18446744073709551616 * t := by omega
    rw [this, Nat.add_mul_mod_self_left, Nat.mod_eq_of_lt (by omega)]
  rw [y1, y2, Nat.mod_eq_of_lt (by omega)]
  refine ⟨by omega, ?_⟩
  have : t * 9223372036854775808 ≤ 1 * 9223372036854775808 := Nat.mul_le_mul_right _ ht
  omega
theorem turnN_zero (x : Nat) (hx : x < 18446744073709551616) : turnN x 0 = x := by
  unfold turnN
  simp
  omega
def turnZ (x n : Int) : Int := (turnN x.toNat (n % 64).toNat : Nat)
theorem turn_prog (x k : Int) (h0 : 0 ≤ x) (h1 : x < 18446744073709551616) (k0 : 0 ≤ k) (k1 : k < 64) :
    bits .or .u64 (IntKind.u64.wrap (x * 2 ^ k.toNat)) (x / 2 ^ (64 - k).toNat) = (turnN x.toNat k.toNat : Nat) := by
  obtain ⟨a, rfl⟩ := Int.eq_ofNat_of_zero_le h0
  obtain ⟨j, rfl⟩ := Int.eq_ofNat_of_zero_le k0
  have ha : a < 18446744073709551616 := by omega
  have hj : j < 64 := by omega
  obtain ⟨P, Q, e1, e2, e3, e4, e5, hP, hQ⟩ := turn_parts j hj
  have hk : (64 - (j : Int)).toNat = 64 - j := by omega
  have c1 : IntKind.u64.wrap ((a : Int) * 2 ^ (j : Int).toNat) = ((a * 2 ^ j % 18446744073709551616 : Nat) : Int) := by
    rw [u64_wrap, Int.toNat_natCast, Int.natCast_emod, Int.natCast_mul, Int.natCast_pow]; rfl
  have c2 : (a : Int) / 2 ^ (64 - (j : Int)).toNat = ((a / 2 ^ (64 - j) : Nat) : Int) := by
    rw [hk, Int.natCast_ediv, Int.natCast_pow]; rfl
  have m : a * 2 ^ j % 18446744073709551616 = a % 2 ^ (64 - j) * 2 ^ j := by
    have : 18446744073709551616 = 2 ^ (64 - j) * 2 ^ j := by rw [← Nat.pow_add, show 64 - j + j = 64 by omega]
    rw [this, Nat.mul_mod_mul_right]
  have b1 : a * 2 ^ j % 18446744073709551616 < 18446744073709551616 := Nat.mod_lt _ (by decide)
  have b2 : a / 2 ^ (64 - j) < 2 ^ j := by
    rw [Nat.div_lt_iff_lt_mul (Nat.two_pow_pos _), ← Nat.pow_add, show j + (64 - j) = 64 by omega]
    omega
  have b3 : 2 ^ j ≤ 18446744073709551616 := by
    have := Nat.pow_le_pow_right (n := 2) (by decide) (show j ≤ 64 by omega)
    omega
  rw [c1, c2, u64_or_nat _ _ b1 (by omega), nat_join j _ _ (by rw [m]; exact Nat.mul_mod_left _ _) b2, m, Int.toNat_natCast, Int.toNat_natCast]
  rfl
theorem turn_loop (x j : Nat) (hx : x < 18446744073709551616) (hj : j < 64) :
    IntKind.u64.wrap (IntKind.u64.wrap ((turnN x j : Int) + turnN x j) + (turnN x j : Int) / 9223372036854775808) = (turnN x (j + 1) : Nat) ∧ turnN x j < 18446744073709551616 := by
  obtain ⟨h1, h2⟩ := turnN_step x j hx hj
  refine ⟨?_, h2⟩
  rw [u64_wrap, u64_wrap, h1]
  omega
theorem turnN_back (x j : Nat) (hx : x < 18446744073709551616) (h0 : 0 < j) (hj : j < 64) : turnN (turnN x j) (64 - j) = x := by
  obtain ⟨P, Q, h1, h2, h3, h4, h5, hP, hQ⟩ := turn_parts j hj
  have e : 64 - (64 - j) = j := by omega
  unfold turnN
  rw [e, h1, h3]
  have dx : x = (2 * P) * (x / (2 * P)) + x % (2 * P) := (Nat.div_add_mod x (2 * P)).symm
  have lr : x % (2 * P) < 2 * P := Nat.mod_lt _ (by omega)
  have lq : x / (2 * P) < Q := by
    rw [Nat.div_lt_iff_lt_mul (by omega)]
    have : Q * (2 * P) = 2 * (P * Q) := by rw [Nat.mul_comm Q, Nat.mul_assoc]
    omega
  generalize x / (2 * P) = q at *
  generalize x % (2 * P) = r at *
  have a1 : (r * Q + q) % Q = q := by rw [Nat.mul_comm, Nat.mul_add_mod, Nat.mod_eq_of_lt lq]
  have a2 : (r * Q + q) / Q = r := by rw [Nat.add_comm, Nat.add_mul_div_right _ _ hQ, Nat.div_eq_of_lt lq]; omega
  rw [a1, a2, dx, Nat.mul_comm q]
theorem turnN_lt (x j : Nat) (hx : x < 18446744073709551616) (hj : j < 64) : turnN x j < 18446744073709551616 := (turnN_step x j hx hj).2
theorem turnZ_range (x n : Int) (h0 : 0 ≤ x) (h1 : x < 18446744073709551616) : 0 ≤ turnZ x n ∧ turnZ x n < 18446744073709551616 := by
  have := turnN_lt x.toNat (n % 64).toNat (by omega) (by omega)
  unfold turnZ; omega
theorem turn_back (x k : Int) (h0 : 0 ≤ x) (h1 : x < 18446744073709551616) : turnZ (turnZ x k) (-k) = x := by
  unfold turnZ
  rw [Int.toNat_natCast]
  by_cases hz : k % 64 = 0
  · have e1 : (k % 64).toNat = 0 := by omega
    have e2 : (-k % 64).toNat = 0 := by omega
    rw [e1, e2, turnN_zero x.toNat (by omega), turnN_zero x.toNat (by omega)]; omega
  · have e2 : (-k % 64).toNat = 64 - (k % 64).toNat := by omega
    rw [e2, turnN_back _ _ (by omega) (by omega) (by omega)]; omega
/-! ### smaller numbers -/
def narrowZ (x k : Int) : Int :=
  if k = 0 then (x + 128) % 256 - 128 else if k = 1 then (x + 32768) % 65536 - 32768 else if k = 2 then (x + 2147483648) % 4294967296 - 2147483648
  else if k = 3 then x % 256 else if k = 4 then x % 65536 else if k = 5 then x % 4294967296 else 0
def narrowE (k : Int) : Int := if 0 ≤ k ∧ k ≤ 5 then 0 else 1
theorem tmod_neg (x m : Int) (hm : 1 ≤ m) (h : x.tmod m < 0) : x.tmod m + m = x % m := by
  have h3 := Int.emod_nonneg x (b := m) (by omega)
  have h4 := Int.emod_lt_of_pos x (b := m) (by omega)
  rw [Int.tmod_eq_emod] at h ⊢
  split at h <;> rename_i hc
  · omega
  · rw [if_neg hc]
    have e : (m.natAbs : Int) = m := by omega
    omega
theorem tmod_pos (x m : Int) (hm : 1 ≤ m) (h : 0 ≤ x.tmod m) : x.tmod m = x % m := by
  have h3 := Int.emod_nonneg x (b := m) (by omega)
  have h4 := Int.emod_lt_of_pos x (b := m) (by omega)
  rw [Int.tmod_eq_emod] at h ⊢
  split at h <;> rename_i hc
  · rw [if_pos hc]; omega
  · have e : (m.natAbs : Int) = m := by omega
    omega
theorem tmod_lo (x m : Int) (hm : 1 ≤ m) : -m < x.tmod m ∧ x.tmod m < m := by
  have h3 := Int.emod_nonneg x (b := m) (by omega)
  have h4 := Int.emod_lt_of_pos x (b := m) (by omega)
  have e : (m.natAbs : Int) = m := by omega
  rw [Int.tmod_eq_emod]
  split
  · omega
  · rename_i hc
    have : x % m ≠ 0 := fun h => hc (.inr (Int.dvd_of_emod_eq_zero h))
    omega
end Go.Proofs.Ytecbnialcnplkaa
