/- Plain: the places of a signature's bits, word by word. -/
import Derived.Test.YtkhppganhhmpeaaS2b
import Derived.Lib.TrailingZeros
namespace Go.Proofs.Ytkhppganhhmpeaa
open Go.RowKit
/-- The numbers of the bits below n, rising. -/
def bitsI (s : Nat → Int) (n : Nat) : List Int := ((List.range n).filter (bitB s)).map fun (k : Nat) => (k : Int)
theorem bitsI_succ (s : Nat → Int) (n : Nat) : bitsI s (n + 1) = if bitB s n then bitsI s n ++ [(n : Int)] else bitsI s n := by
  unfold bitsI
  rw [List.range_succ, List.filter_append]
  by_cases h : bitB s n = true
  · simp [h]
  · simp [h]
theorem bitsI_len (s : Nat → Int) (n : Nat) : (bitsI s n).length ≤ n := by
  unfold bitsI
  rw [List.length_map]
  have := List.length_filter_le (bitB s) (List.range n)
  rwa [List.length_range] at this
theorem bitsI_skip (s : Nat → Int) (a : Nat) : ∀ d, (∀ j, a ≤ j → j < a + d → bitB s j = false) → bitsI s (a + d) = bitsI s a
  | 0, _ => rfl
  | d + 1, h => by
    rw [show a + (d + 1) = (a + d) + 1 by omega, bitsI_succ, h (a + d) (by omega) (by omega)]
    simp only [Bool.false_eq_true, if_false]
    exact bitsI_skip s a d fun j h1 h2 => h j h1 (by omega)
/-- What is left of a word when its bits below t are gone. -/
def Left (y t x : Nat) : Prop := ∀ j, x.testBit j = (decide (t ≤ j) && y.testBit j)
theorem left_zero (y : Nat) : Left y 0 y := fun j => by simp
theorem left_step {y t x : Nat} (h : Left y t x) (h0 : x ≠ 0) (hx : x < 18446744073709551616) :
    t ≤ Lib.ctz 64 x ∧ Lib.ctz 64 x < 64 ∧ y.testBit (Lib.ctz 64 x) = true ∧ (∀ j, t ≤ j → j < Lib.ctz 64 x → y.testBit j = false) ∧ Left y (Lib.ctz 64 x + 1) (x &&& (x - 1)) ∧ x &&& (x - 1) < x := by
  obtain ⟨m, hm, hk⟩ := Lib.ctzFrom_spec 64 x (by omega) hx
  have e : Lib.ctz 64 x = Lib.ctzFrom 64 x := by simp [Lib.ctz, h0]
  rw [e]
  generalize Lib.ctzFrom 64 x = k at *
  have hp := Nat.two_pow_pos k
  have hb : ∀ j, x.testBit j = (decide (j ≥ k) && (2 * m + 1).testBit (j - k)) := fun j => by rw [hm, Nat.testBit_two_pow_mul]
  have hs : x - 1 = 2 ^ k * (2 * m) + (2 ^ k - 1) := by
    rw [hm, Nat.mul_add, Nat.mul_one]; omega
  have hb1 : ∀ j, (x - 1).testBit j = if j < k then (2 ^ k - 1).testBit j else (2 * m).testBit (j - k) := fun j => by
    rw [hs, Nat.testBit_two_pow_mul_add _ (by omega)]
  have bk : x.testBit k = true := by rw [hb]; simp
  have yk := h k
  rw [bk] at yk
  have hyk : t ≤ k ∧ y.testBit k = true := by simpa using yk.symm
  refine ⟨hyk.1, hk, hyk.2, ?_, ?_, ?_⟩
  · intro j h1 h2
    have := h j
    rw [hb] at this
    simp only [ge_iff_le] at this
    have e1 : decide (k ≤ j) = false := by simp; omega
    have e2 : decide (t ≤ j) = true := by simp; omega
    rw [e1, e2] at this
    simpa using this.symm
  · intro j
    rw [Nat.testBit_and, hb1]
    by_cases hj : j < k
    · rw [if_pos hj, hb]
      have e1 : decide (j ≥ k) = false := by simp; omega
      have e2 : decide (k + 1 ≤ j) = false := by simp; omega
      rw [e1, e2]; simp
    · rw [if_neg hj]
      by_cases hjk : j = k
      · subst hjk; simp; omega
      · have e2 : decide (k + 1 ≤ j) = true := by simp; omega
        have hxy := h j
        have e3 : decide (t ≤ j) = true := by simp; omega
        rw [e3] at hxy
        rw [e2, hxy]
        have e4 : (2 * m).testBit (j - k) = x.testBit j := by
          rw [hb]
          have e1 : decide (j ≥ k) = true := by simp; omega
          rw [e1, Bool.true_and]
          obtain ⟨d, hd⟩ : ∃ d, j - k = d + 1 := ⟨j - k - 1, by omega⟩
          rw [hd, Nat.testBit_succ, Nat.testBit_succ]
          congr 1
          omega
        rw [e4, hxy]; simp
  · have h1 : x &&& (x - 1) ≤ x - 1 := Nat.and_le_right
    omega
theorem left_done {y t : Nat} (h : Left y t 0) : ∀ j, t ≤ j → y.testBit j = false := by
  intro j hj
  have := h j
  rw [Nat.zero_testBit] at this
  have e : decide (t ≤ j) = true := by simp [hj]
  rw [e] at this
  simpa using this.symm
theorem bitsI_next (s : Nat → Int) (i t c : Nat) (h1 : t ≤ c) (hc : c < 64) (hb : (s i).toNat.testBit c = true) (hz : ∀ j, t ≤ j → j < c → (s i).toNat.testBit j = false) :
    bitsI s (64 * i + (c + 1)) = bitsI s (64 * i + t) ++ [((64 * i + c : Nat) : Int)] := by
  have hB : ∀ j, j < 64 → bitB s (64 * i + j) = (s i).toNat.testBit j := fun j hj => by
    unfold bitB
    rw [show (64 * i + j) / 64 = i by omega, show (64 * i + j) % 64 = j by omega]
  rw [show 64 * i + (c + 1) = (64 * i + c) + 1 by omega, bitsI_succ, hB c hc, hb]
  have := bitsI_skip s (64 * i + t) (c - t) (fun j a b => by
    have := hB (j - 64 * i) (by omega)
    rw [show 64 * i + (j - 64 * i) = j by omega] at this
    rw [this]; exact hz _ (by omega) (by omega))
  rw [show 64 * i + t + (c - t) = 64 * i + c by omega] at this
  rw [this]; simp
theorem bitsI_end (s : Nat → Int) (i t : Nat) (h1 : t ≤ 64) (hz : ∀ j, t ≤ j → (s i).toNat.testBit j = false) :
    bitsI s (64 * (i + 1)) = bitsI s (64 * i + t) := by
  have hB : ∀ j, j < 64 → bitB s (64 * i + j) = (s i).toNat.testBit j := fun j hj => by
    unfold bitB
    rw [show (64 * i + j) / 64 = i by omega, show (64 * i + j) % 64 = j by omega]
  have := bitsI_skip s (64 * i + t) (64 - t) (fun j a b => by
    have := hB (j - 64 * i) (by omega)
    rw [show 64 * i + (j - 64 * i) = j by omega] at this
    rw [this]; exact hz _ (by omega))
  rw [show 64 * i + t + (64 - t) = 64 * (i + 1) by omega] at this
  exact this
end Go.Proofs.Ytkhppganhhmpeaa
