/- Plain: words that are numbers; the machine's end. -/
import Derived.Test.YtecbnialcnplkaaS7
import Derived.Test.YtecbnialcnplkaaS3
namespace Go.Proofs.Ytecbnialcnplkaa
open Go.RowKit
/-- All words are numbers of the machine. -/
def OkW (l : List Acc) : Prop := ∀ a b c, I64 (wordOf l a b c)
theorem okW_nil : OkW [] := fun a b c => by rw [wordOf_nil]; unfold wInit; split <;> exact ⟨by omega, by omega⟩
theorem okW_ld {l : List Acc} (h : OkW l) (th k i j v : Int) : OkW (l ++ [ldAcc th k i j v]) := fun a b c => by rw [wordOf_ld]; exact h a b c
theorem okW_st {l : List Acc} (h : OkW l) (th k i j v : Int) (hv : I64 v) : OkW (l ++ [stAcc th k i j v]) := fun a b c => by
  rw [wordOf_st]; unfold upd; split
  · exact hv
  · exact h a b c
/-- The machine behind s steps, not through. -/
def EInv (n s : Nat) (st seen sk : Int) : Prop := (st = 0 ∧ s = 0) ∨ (st = 1 ∧ 1 ≤ sk ∧ sk ≤ seen ∧ seen ≤ 9223372036854775807 ∧ (s : Int) = seen - sk + 1 ∧ s ≤ n)
/-- A step goes on, or is the last. -/
theorem EInv.step {n s : Nat} {st seen sk : Int} (h : EInv n s st seen sk) (hn : 1 ≤ n) (v : Int) (hv : I64 v) (st' seen' sk' kd : Int) (hs : stepB n st seen sk v = (st', seen', sk', kd)) :
    (EInv n (s + 1) st' seen' sk' ∧ kd = 2 ∧ st' = 1) ∨ (st' = 2 ∧ kd = 3 ∧ 0 ≤ sk' ∧ (0 ≤ seen' → sk' ≤ seen') ∧ s ≤ n) := by
  obtain ⟨hv1, hv2⟩ := hv
  unfold stepB at hs
  rcases h with ⟨rfl, rfl⟩ | ⟨rfl, h1, h2, h3, h4, h5⟩
  · rw [if_pos rfl] at hs
    by_cases hc : v < 1
    · rw [if_pos hc] at hs
      obtain ⟨rfl, rfl, rfl, rfl⟩ : 2 = st' ∧ v = seen' ∧ 0 = sk' ∧ 3 = kd := by simpa using hs
      right; omega
    · rw [if_neg hc] at hs
      obtain ⟨rfl, rfl, rfl, rfl⟩ : 1 = st' ∧ v = seen' ∧ v = sk' ∧ 2 = kd := by simpa using hs
      left
      exact ⟨.inr ⟨rfl, by omega, by omega, by omega, by omega, by omega⟩, rfl, rfl⟩
  · rw [if_neg (by decide)] at hs
    by_cases ho : overB v sk = true
    · rw [if_pos ho] at hs
      obtain ⟨rfl, rfl, rfl, rfl⟩ : 2 = st' ∧ seen = seen' ∧ sk = sk' ∧ 3 = kd := by simpa using hs
      right; omega
    · rw [if_neg ho] at hs
      by_cases hc : sk - 1 < 1 ∨ sk - 1 = seen - n
      · rw [if_pos hc] at hs
        obtain ⟨rfl, rfl, rfl, rfl⟩ : 2 = st' ∧ seen = seen' ∧ sk - 1 = sk' ∧ 3 = kd := by simpa using hs
        right; omega
      · rw [if_neg hc] at hs
        obtain ⟨rfl, rfl, rfl, rfl⟩ : 1 = st' ∧ seen = seen' ∧ sk - 1 = sk' ∧ 2 = kd := by simpa using hs
        left
        exact ⟨.inr ⟨rfl, by omega, by omega, by omega, by omega, by omega⟩, rfl, rfl⟩
theorem EInv.rng {n s : Nat} {st seen sk : Int} (h : EInv n s st seen sk) : (st = 0 ∨ (st = 1 ∧ 1 ≤ sk ∧ sk ≤ seen ∧ seen ≤ 9223372036854775807)) ∧ s ≤ n + 1 ∧ (1 ≤ n → s ≤ n) := by
  rcases h with ⟨rfl, rfl⟩ | ⟨rfl, h1, h2, h3, h4, h5⟩
  · exact ⟨.inl rfl, by omega, by omega⟩
  · exact ⟨.inr ⟨rfl, h1, h2, h3⟩, by omega, by omega⟩
end Go.Proofs.Ytecbnialcnplkaa
