/- Plain: signatures as sets. -/
import Derived.Test.YtcnkoiogfhggeaaDoorC2s
namespace Go.Proofs.YtcnkoiogfhggeaaDoor
open Go.RowKit
theorem int_of_nat {x y : Int} (hx : 0 ≤ x) (hy : 0 ≤ y) (h : x.toNat = y.toNat) : x = y := by omega
theorem orS_comm {a b : Nat → Int} (ha : Wds a) (hb : Wds b) : orS a b = orS b a := by
  funext i
  unfold orS
  rw [or_nat _ _ (ha i) (hb i), or_nat _ _ (hb i) (ha i), Nat.or_comm]
theorem andS_comm {a b : Nat → Int} (ha : Wds a) (hb : Wds b) : andS a b = andS b a := by
  funext i
  unfold andS
  rw [and_nat _ _ (ha i) (hb i), and_nat _ _ (hb i) (ha i), Nat.and_comm]
theorem and_orS {a b c : Nat → Int} (ha : Wds a) (hb : Wds b) (hc : Wds c) : andS c (orS a b) = orS (andS c a) (andS c b) := by
  funext i
  have h1 : andS c (orS a b) i = (((c i).toNat &&& ((a i).toNat ||| (b i).toNat) : Nat) : Int) := by
    show bits .and .u64 (c i) (orS a b i) = _
    rw [and_nat _ _ (hc i) (orS_wds ha hb i)]
    congr 2
    show (bits .or .u64 (a i) (b i)).toNat = _
    rw [or_nat _ _ (ha i) (hb i), Int.toNat_natCast]
  have h2 : orS (andS c a) (andS c b) i = ((((c i).toNat &&& (a i).toNat) ||| ((c i).toNat &&& (b i).toNat) : Nat) : Int) := by
    show bits .or .u64 (andS c a i) (andS c b i) = _
    rw [or_nat _ _ (andS_wds hc ha i) (andS_wds hc hb i)]
    show (((bits .and .u64 (c i) (a i)).toNat ||| (bits .and .u64 (c i) (b i)).toNat : Nat) : Int) = _
    rw [and_nat _ _ (hc i) (ha i), and_nat _ _ (hc i) (hb i), Int.toNat_natCast, Int.toNat_natCast]
  rw [h1, h2, Nat.and_or_distrib_left]
theorem andS_self {a : Nat → Int} (ha : Wds a) : andS a a = a := by
  funext i
  unfold andS
  rw [and_nat _ _ (ha i) (ha i), Nat.and_self]
  have := (ha i).1; omega
theorem sigEq_no {s : Nat → Int} (hs : Wds s) : sigEq s noS = true ↔ ∀ k, k < 512 → bitB s k = false := by
  rw [sigEq_iff]
  constructor
  · intro h k hk
    have e := h (k / 64) (by omega)
    unfold bitB
    rw [e]
    unfold noS; simp
  · intro h
    exact eq_of_bits hs noS_wds fun k hk => by rw [h k hk, bitB_noS]
theorem meets_or {a b c : Nat → Int} (ha : Wds a) (hb : Wds b) (hc : Wds c) : (!sigEq (andS c (orS a b)) noS) = ((!sigEq (andS c a) noS) || !sigEq (andS c b) noS) := by
  rw [and_orS ha hb hc, ← Bool.not_and]
  congr 1
  rw [Bool.eq_iff_iff, Bool.and_eq_true, sigEq_no (orS_wds (andS_wds hc ha) (andS_wds hc hb)), sigEq_no (andS_wds hc ha), sigEq_no (andS_wds hc hb)]
  constructor
  · intro h
    refine ⟨fun k hk => ?_, fun k hk => ?_⟩
    · have := h k hk
      rw [bitB_orS (andS_wds hc ha) (andS_wds hc hb), Bool.or_eq_false_iff] at this
      exact this.1
    · have := h k hk
      rw [bitB_orS (andS_wds hc ha) (andS_wds hc hb), Bool.or_eq_false_iff] at this
      exact this.2
  · rintro ⟨h1, h2⟩ k hk
    rw [bitB_orS (andS_wds hc ha) (andS_wds hc hb), h1 k hk, h2 k hk]; rfl
theorem len_sum {a b : Nat → Int} (ha : Wds a) (hb : Wds b) (n : Nat) : (bitsI a n).length + (bitsI b n).length = (bitsI (andS a b) n).length + (bitsI (orS a b) n).length := by
  induction n with
  | zero => rfl
  | succ n ih =>
    rw [bitsI_succ, bitsI_succ, bitsI_succ, bitsI_succ, bitB_orS ha hb, bitB_andS ha hb]
    cases bitB a n <;> cases bitB b n <;> simp <;> omega
end Go.Proofs.YtcnkoiogfhggeaaDoor
