/- Plain: the words of the check are addresses that there are. -/
import Derived.Test.YtecbnialcnplkaaC8d
import Derived.Test.YtecbnialcnplkaaS8
import Derived.Test.YtecbnialcnplkaaS3
namespace Go.Proofs.Ytecbnialcnplkaa
open Go.RowKit
theorem addrK_isA {size : Nat} (h1 : 1 ≤ size) (h2 : size ≤ 16) {fr : Int} {rs : Nat → Int} {s : CS} {len : Nat} (hi : KInv size fr rs s len) (h4 : s.st < 4) {a b c : Int} (h : addrK size s = (a, b, c)) (cells : Nat) : isA size cells a b c := by
  unfold addrK at h
  rcases hi with ⟨h0, _⟩ | ⟨h0, _⟩ | ⟨h0, _, _, _, _, _, m, hm, hw, _⟩ | ⟨h0, _⟩ | ⟨h0, _⟩
  · rw [if_pos (.inl h0)] at h
    obtain ⟨rfl, rfl, rfl⟩ : 1 = a ∧ 0 = b ∧ 0 = c := by simpa using h
    exact .inl ⟨rfl, rfl, rfl⟩
  · rw [if_neg (by omega), if_pos h0] at h
    obtain ⟨rfl, rfl, rfl⟩ : 2 = a ∧ slotZ s.sk size = b ∧ 0 = c := by simpa using h
    exact .inr (.inl ⟨rfl, slotZ_lt s.sk size (by omega) (by omega), rfl⟩)
  · rw [if_neg (by omega), if_neg (by omega), hw] at h
    obtain ⟨rfl, rfl, rfl⟩ : 3 = a ∧ slotZ s.sk size = b ∧ (m : Int) = c := by simpa using h
    exact .inr (.inr (.inl ⟨rfl, slotZ_lt s.sk size (by omega) (by omega), by omega, by omega⟩))
  · rw [if_pos (.inr h0)] at h
    obtain ⟨rfl, rfl, rfl⟩ : 1 = a ∧ 0 = b ∧ 0 = c := by simpa using h
    exact .inl ⟨rfl, rfl, rfl⟩
  · omega
theorem KInv.rng {size : Nat} {fr : Int} {rs : Nat → Int} {s : CS} {len : Nat} (h : KInv size fr rs s len) (h4 : s.st < 4) (hf : 0 ≤ fr) : KRng s := by
  rcases h with ⟨h0, _⟩ | ⟨h0, _, _, hse, h1, h2, _⟩ | ⟨h0, _, _, hse, h1, h2, m, hm, hw, _⟩ | ⟨h0, _⟩ | ⟨h0, _⟩
  · exact .inl (.inl h0)
  · exact .inr (.inl ⟨h0, by omega, by omega⟩)
  · exact .inr (.inr ⟨h0, ⟨by omega, hse⟩, m, hm, hw⟩)
  · exact .inl (.inr h0)
  · omega
end Go.Proofs.Ytecbnialcnplkaa
