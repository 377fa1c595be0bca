/- Plain: signatures as text. -/
import Derived.Test.YtcnkoiogfhggeaaDoorS2
import Derived.Laws.BitsAllLaws
namespace Go.Proofs.YtcnkoiogfhggeaaDoor
open Go.RowKit
/-- The letter of a digit of sixteen. -/
def hexd (d : Nat) : Int := if d < 10 then (48 + d : Nat) else (87 + d : Nat)
theorem hexd_range (d : Nat) (h : d < 16) : 0 ≤ hexd d ∧ hexd d < 256 := by unfold hexd; split <;> omega
/-- A word's digit k places up, and its sixteen digits, the highest first. -/
def digN (x k : Nat) : Nat := x / 16 ^ k % 16
def wordL (x : Nat) : List Int := (List.range 16).map fun j => hexd (digN x (15 - j))
def textL (s : Nat → Int) (i : Nat) : List Int := (List.range i).flatMap fun j => wordL (s j).toNat
theorem digN_lt (x k : Nat) : digN x k < 16 := Nat.mod_lt _ (by decide)
theorem wordL_length (x : Nat) : (wordL x).length = 16 := by simp [wordL]
theorem textL_succ (s : Nat → Int) (i : Nat) : textL s (i + 1) = textL s i ++ wordL (s i).toNat := by simp [textL, List.range_succ]
theorem textL_length (s : Nat → Int) : ∀ i, (textL s i).length = 16 * i
  | 0 => rfl
  | i + 1 => by rw [textL_succ, List.length_append, textL_length s i, wordL_length]; omega
theorem wordL_take (x n : Nat) (h : n < 16) : (wordL x).take (n + 1) = (wordL x).take n ++ [hexd (digN x (15 - n))] := by
  rw [List.take_succ_eq_append_getElem (by rw [wordL_length]; exact h)]
  simp [wordL]
theorem wordL_full (x : Nat) : (wordL x).take 16 = wordL x := List.take_of_length_le (by rw [wordL_length]; omega)
theorem and15 (a : Nat) (h : a < 18446744073709551616) : bits .and .u64 (a : Int) 15 = ((a % 16 : Nat) : Int) := by
  have e := u64_and_nat a 15 h (by decide)
  rw [nat_mask4] at e
  exact e
theorem text_digit (x n : Nat) (hx : x < 18446744073709551616) (q : Int) (hn : n < 16) (hq : q = 60 - 4 * n) :
    bits .and .u64 ((x : Int) / 2 ^ q.toNat) 15 = ((digN x (15 - n) : Nat) : Int) := by
  have e : q.toNat = 4 * (15 - n) := by omega
  have e2 : ((x : Int) / 2 ^ q.toNat) = ((x / 16 ^ (15 - n) : Nat) : Int) := by
    rw [e, Int.natCast_ediv, Int.natCast_pow, Int.pow_mul]; rfl
  rw [e2, and15 _ (Nat.lt_of_le_of_lt (Nat.div_le_self _ _) hx)]
  rfl
theorem textL_range (s : Nat → Int) (i : Nat) : ∀ d ∈ textL s i, 0 ≤ d ∧ d < 256 := by
  intro d hd
  simp only [textL, List.mem_flatMap, wordL, List.mem_map] at hd
  obtain ⟨_, _, j, _, rfl⟩ := hd
  exact hexd_range _ (digN_lt _ _)
end Go.Proofs.YtcnkoiogfhggeaaDoor
