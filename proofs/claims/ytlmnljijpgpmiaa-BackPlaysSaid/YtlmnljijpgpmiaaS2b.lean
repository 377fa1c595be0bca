/- Plain: unions and meets of signatures, bit by bit. -/
import Derived.Test.YtlmnljijpgpmiaaS2
namespace Go.Proofs.Ytlmnljijpgpmiaa
open Go.RowKit
def orS (a b : Nat → Int) : Nat → Int := fun i => bits .or .u64 (a i) (b i)
def andS (a b : Nat → Int) : Nat → Int := fun i => bits .and .u64 (a i) (b i)
/-- The signature of the bits below n that are told. -/
def upTo (p : Nat → Bool) : Nat → Nat → Int
  | 0 => noS
  | n + 1 => if p n then putB (upTo p n) n else upTo p n
theorem upTo_wds (p : Nat → Bool) : ∀ n, Wds (upTo p n)
  | 0 => noS_wds
  | n + 1 => by
    unfold upTo
    split
    · exact putB_wds (upTo_wds p n) n
    · exact upTo_wds p n
theorem bitB_noS (j : Nat) : bitB noS j = false := by unfold bitB noS; simp
theorem bitB_upTo (p : Nat → Bool) (j : Nat) : ∀ n, bitB (upTo p n) j = (decide (j < n) && p j)
  | 0 => by simp [upTo, bitB_noS]
  | n + 1 => by
    have ih := bitB_upTo p j n
    unfold upTo
    by_cases hn : j = n
    · subst hn
      split
      · rename_i h; rw [bitB_putB, ih]; simp [h]
      · rename_i h; rw [ih]; simp [h]
    · have e : decide (j < n + 1) = decide (j < n) := by rw [decide_eq_decide]; omega
      rw [e]
      split
      · rw [bitB_putB, ih]; simp [hn]
      · exact ih
theorem or_nat (x y : Int) (hx : 0 ≤ x ∧ x < 18446744073709551616) (hy : 0 ≤ y ∧ y < 18446744073709551616) : bits .or .u64 x y = ((x.toNat ||| y.toNat : Nat) : Int) := u64_or x y hx.1 hx.2 hy.1 hy.2
theorem and_nat (x y : Int) (hx : 0 ≤ x ∧ x < 18446744073709551616) (hy : 0 ≤ y ∧ y < 18446744073709551616) : bits .and .u64 x y = ((x.toNat &&& y.toNat : Nat) : Int) := u64_and x y hx.1 hx.2 hy.1 hy.2
theorem orS_wds {a b : Nat → Int} (ha : Wds a) (hb : Wds b) : Wds (orS a b) := by
  intro i
  have h1 := ha i
  have h2 := hb i
  unfold orS
  rw [or_nat _ _ h1 h2]
  have := or_lt64 (a i).toNat (b i).toNat (by omega) (by omega)
  omega
theorem andS_wds {a b : Nat → Int} (ha : Wds a) (hb : Wds b) : Wds (andS a b) := by
  intro i
  have h1 := ha i
  have h2 := hb i
  unfold andS
  rw [and_nat _ _ h1 h2]
  have : (a i).toNat &&& (b i).toNat < 18446744073709551616 := Nat.lt_of_le_of_lt Nat.and_le_left (by omega)
  omega
theorem bitB_orS {a b : Nat → Int} (ha : Wds a) (hb : Wds b) (k : Nat) : bitB (orS a b) k = (bitB a k || bitB b k) := by
  unfold bitB orS
  rw [or_nat _ _ (ha _) (hb _), Int.toNat_natCast, Nat.testBit_or]
theorem bitB_andS {a b : Nat → Int} (ha : Wds a) (hb : Wds b) (k : Nat) : bitB (andS a b) k = (bitB a k && bitB b k) := by
  unfold bitB andS
  rw [and_nat _ _ (ha _) (hb _), Int.toNat_natCast, Nat.testBit_and]
theorem upTo_orS {a b : Nat → Int} (ha : Wds a) (hb : Wds b) : ∀ i, i < 8 → upTo (fun k => bitB a k || bitB b k) 512 i = orS a b i :=
  eq_of_bits (upTo_wds _ _) (orS_wds ha hb) fun k hk => by rw [bitB_upTo, bitB_orS ha hb]; simp [hk]
theorem upTo_andS {a b : Nat → Int} (ha : Wds a) (hb : Wds b) : ∀ i, i < 8 → upTo (fun k => bitB a k && bitB b k) 512 i = andS a b i :=
  eq_of_bits (upTo_wds _ _) (andS_wds ha hb) fun k hk => by rw [bitB_upTo, bitB_andS ha hb]; simp [hk]
/-- The words below k are of g, the others of a. -/
def mixW (g a : Nat → Int) (k : Nat) : Nat → Int := fun i => if i < k then g i else a i
end Go.Proofs.Ytlmnljijpgpmiaa
