/- Plain: how many steps the check makes. -/
import Derived.Test.YtecbnialcnplkaaS8
namespace Go.Proofs.Ytecbnialcnplkaa
open Go.RowKit
/-- Behind n steps that did not wait. -/
def WInv (size : Nat) (fr : Int) (rs : Nat → Int) (s : CS) (n : Nat) : Prop :=
  (s.st = 0 ∧ n = 0) ∨
  (zeroS rs = false ∧ s.st = 1 ∧ (fr + 1 ≤ s.sk ∧ s.sk ≤ s.seen ∧ s.seen - fr ≤ size ∧ s.seen ≤ 9223372036854775807) ∧ (n : Int) ≤ 1 + 9 * (s.sk - fr - 1)) ∨
  (zeroS rs = false ∧ s.st = 2 ∧ (fr + 1 ≤ s.sk ∧ s.sk ≤ s.seen ∧ s.seen - fr ≤ size ∧ s.seen ≤ 9223372036854775807) ∧ ∃ m : Nat, m < 8 ∧ s.word = m ∧ (n : Int) ≤ 2 + 9 * (s.sk - fr - 1) + m) ∨
  (s.st = 3 ∧ n ≤ 1 + 9 * size) ∨ (4 ≤ s.st ∧ n ≤ 2 + 9 * size)
theorem zero_lt {rs : Nat → Int} (h : zeroS rs = false) : nextW rs 0 < 8 := by
  have := nextW_le rs 0
  unfold zeroS at h
  simp at h
  omega
theorem nextW_gt (rs : Nat → Int) (m : Nat) (hm : m < 8) : m + 1 ≤ nextW rs (m + 1) := nextW_ge rs (m + 1) (by omega)
/-- A step. -/
theorem WInv.step {size : Nat} {fr : Int} {rs : Nat → Int} {s : CS} {n : Nat} (h : WInv size fr rs s n) (h4 : s.st < 4) (last : Bool) (v : Int) (hv : v ≤ 9223372036854775807) (s' : CS) (kd er : Int) (hs : stepK size fr rs last s v = (s', kd, er)) :
    (kd = 1 ∧ er = 0 ∧ WInv size fr rs s' n) ∨ ((kd = 2 ∨ kd = 3 ∨ kd = 4) ∧ WInv size fr rs s' (n + 1) ∧ (er = 0 ∨ er = 4 ∨ (er = 3 ∧ ∃ m : Nat, m < 8 ∧ addrK size s = (3, slotZ s.sk size, (m : Int)) ∧ bits .and .u64 (IntKind.u64.wrap v) (rs m) ≠ 0))) := by
  unfold stepK at hs
  rcases h with ⟨h0, rfl⟩ | ⟨hz, h0, ⟨h1, h2, h3, hse⟩, hn⟩ | ⟨hz, h0, ⟨h1, h2, h3, hse⟩, m, hm, hw, hn⟩ | ⟨h0, hn⟩ | ⟨h0, hn⟩
  · rw [if_pos h0] at hs
    split at hs
    · obtain ⟨rfl, rfl, rfl⟩ := by simpa using hs
      exact .inr ⟨.inr (.inl rfl), .inr (.inr (.inr (.inr ⟨by show (4 : Int) ≤ 4; omega, by omega⟩))), .inl rfl⟩
    · rename_i hc
      split at hs
      · obtain ⟨rfl, rfl, rfl⟩ := by simpa using hs
        exact .inr ⟨.inr (.inr rfl), .inr (.inr (.inr (.inr ⟨by show (4 : Int) ≤ 5; omega, by omega⟩))), .inr (.inl rfl)⟩
      · rename_i hf
        obtain ⟨rfl, rfl, rfl⟩ := by simpa using hs
        have hz : zeroS rs = false := by cases h : zeroS rs <;> simp_all
        have hvf : ¬ v ≤ fr := fun h => hc (.inr h)
        have hfar : v - fr ≤ size := by
          unfold farB at hf
          simp at hf
          omega
        exact .inr ⟨.inl rfl, .inr (.inl ⟨hz, rfl, ⟨by show fr + 1 ≤ fr + 1; omega, by show fr + 1 ≤ v; omega, hfar, hv⟩, by show ((0 + 1 : Nat) : Int) ≤ 1 + 9 * (fr + 1 - fr - 1); omega⟩), .inl rfl⟩
  · rw [if_neg (by omega), if_pos h0] at hs
    split at hs
    · obtain ⟨rfl, rfl, rfl⟩ := by simpa using hs
      exact .inl ⟨rfl, rfl, .inr (.inl ⟨hz, h0, ⟨h1, h2, h3, hse⟩, hn⟩)⟩
    · split at hs
      · obtain ⟨rfl, rfl, rfl⟩ := by simpa using hs
        exact .inr ⟨.inr (.inr rfl), .inr (.inr (.inr (.inr ⟨by show (4 : Int) ≤ 5; omega, by omega⟩))), .inr (.inl rfl)⟩
      · obtain ⟨rfl, rfl, rfl⟩ := by simpa using hs
        exact .inr ⟨.inl rfl, .inr (.inr (.inl ⟨hz, rfl, ⟨h1, h2, h3, hse⟩, nextW rs 0, zero_lt hz, rfl, by show ((n + 1 : Nat) : Int) ≤ 2 + 9 * (s.sk - fr - 1) + (nextW rs 0 : Nat); omega⟩)), .inl rfl⟩
  · rw [if_neg (by omega), if_neg (by omega), if_pos h0, hw, Int.toNat_natCast] at hs
    have hgt := nextW_gt rs m hm
    split at hs
    · rename_i hb
      obtain ⟨rfl, rfl, rfl⟩ := by simpa using hs
      refine .inr ⟨.inr (.inr rfl), .inr (.inr (.inr (.inr ⟨by show (4 : Int) ≤ 5; omega, by omega⟩))), .inr (.inr ⟨rfl, m, hm, ?_, hb⟩)⟩
      unfold addrK
      rw [if_neg (by omega), if_neg (by omega), hw]
    · split at hs
      · obtain ⟨rfl, rfl, rfl⟩ := by simpa using hs
        rename_i hx
        exact .inr ⟨.inl rfl, .inr (.inr (.inl ⟨hz, h0, ⟨h1, h2, h3, hse⟩, nextW rs (m + 1), hx, rfl, by show ((n + 1 : Nat) : Int) ≤ 2 + 9 * (s.sk - fr - 1) + (nextW rs (m + 1) : Nat); omega⟩)), .inl rfl⟩
      · split at hs
        · rename_i hlt
          obtain ⟨rfl, rfl, rfl⟩ := by simpa using hs
          exact .inr ⟨.inl rfl, .inr (.inl ⟨hz, rfl, ⟨by show fr + 1 ≤ s.sk + 1; omega, by show s.sk + 1 ≤ s.seen; omega, h3, hse⟩, by show ((n + 1 : Nat) : Int) ≤ 1 + 9 * (s.sk + 1 - fr - 1); omega⟩), .inl rfl⟩
        · split at hs
          · obtain ⟨rfl, rfl, rfl⟩ := by simpa using hs
            exact .inr ⟨.inl rfl, .inr (.inr (.inr (.inl ⟨rfl, by omega⟩))), .inl rfl⟩
          · obtain ⟨rfl, rfl, rfl⟩ := by simpa using hs
            exact .inr ⟨.inr (.inl rfl), .inr (.inr (.inr (.inr ⟨by show (4 : Int) ≤ 4; omega, by omega⟩))), .inl rfl⟩
  · rw [if_neg (by omega), if_neg (by omega), if_neg (by omega)] at hs
    split at hs
    · obtain ⟨rfl, rfl, rfl⟩ := by simpa using hs
      exact .inr ⟨.inr (.inr rfl), .inr (.inr (.inr (.inr ⟨by show (4 : Int) ≤ 5; omega, by omega⟩))), .inr (.inl rfl)⟩
    · obtain ⟨rfl, rfl, rfl⟩ := by simpa using hs
      exact .inr ⟨.inr (.inl rfl), .inr (.inr (.inr (.inr ⟨by show (4 : Int) ≤ 4; omega, by omega⟩))), .inl rfl⟩
  · omega
theorem WInv.bound {size : Nat} {fr : Int} {rs : Nat → Int} {s : CS} {n : Nat} (h : WInv size fr rs s n) : n ≤ 2 + 9 * size := by
  rcases h with ⟨h0, rfl⟩ | ⟨hz, h0, ⟨h1, h2, h3, hse⟩, hn⟩ | ⟨hz, h0, ⟨h1, h2, h3, hse⟩, m, hm, hw, hn⟩ | ⟨h0, hn⟩ | ⟨h0, hn⟩ <;> omega
end Go.Proofs.Ytecbnialcnplkaa
