/- Plain: where a transaction begins. -/
import Derived.Test.YtecbnialcnplkaaS1
import Derived.Test.YtecbnialcnplkaaS3b
import Derived.Test.YtecbnialcnplkaaS3
namespace Go.Proofs.Ytecbnialcnplkaa
open Go.RowKit
/-- What is loaded next, by the state. -/
def addrB (size st sk : Int) : Int × Int × Int := if st = 0 then (1, 0, 0) else (2, slotZ sk size, 0)
/-- A step by what was loaded: state, seen, at, kind. -/
def stepB (size st seen sk v : Int) : Int × Int × Int × Int :=
  if st = 0 then (if v < 1 then (2, v, 0, 3) else (1, v, v, 2))
  else if overB v sk then (2, seen, sk, 3) else if sk - 1 < 1 ∨ sk - 1 = seen - size then (2, seen, sk - 1, 3) else (1, seen, sk - 1, 2)
/-- The first head that is over; behind it: none. -/
def scanO (n : Int) : List Int → Nat → Option Int
  | [], _ => none
  | h :: hs, k => if overB h (n - k) then some (n - k) else scanO n hs (k + 1)
/-- The plan behind loads: through, start, seen, address. -/
def nextP (size : Nat) : List Int → Bool × Int × Int × Int × Int × Int
  | [] => (false, 0, 0, 1, 0, 0)
  | n :: hs => if n < 1 then (true, 0, n, 0, 0, 0) else match scanO n hs 0 with
    | some s => (true, s, n, 0, 0, 0)
    | none => if n - hs.length < 1 ∨ hs.length = size then (true, n - hs.length, n, 0, 0, 0) else (false, 0, 0, 2, slotZ (n - hs.length) size, 0)
theorem scanO_snoc (n : Int) : ∀ (hs : List Int) (k : Nat) (v : Int), scanO n (hs ++ [v]) k = match scanO n hs k with | some s => some s | none => if overB v (n - (k + hs.length : Nat)) then some (n - (k + hs.length : Nat)) else none
  | [], k, v => by simp [scanO]
  | h :: hs, k, v => by
    simp only [List.cons_append, scanO, List.length_cons]
    by_cases e : overB h (n - k) = true
    · rw [if_pos e, if_pos e]
    · rw [if_neg e, if_neg e, scanO_snoc n hs (k + 1) v, show k + 1 + hs.length = k + (hs.length + 1) by omega]
/-- The machine's state beside the loads. -/
def BRel (size : Nat) (st seen sk : Int) (L : List Int) : Prop :=
  (st = 0 ∧ seen = 0 ∧ sk = 0 ∧ L = []) ∨
  (st = 1 ∧ ∃ hs, L = seen :: hs ∧ 1 ≤ seen ∧ scanO seen hs 0 = none ∧ sk = seen - hs.length ∧ 1 ≤ sk ∧ hs.length < size) ∨
  (st = 2 ∧ L ≠ [] ∧ L.length ≤ size + 1 ∧ nextP size L = (true, sk, seen, 0, 0, 0))
theorem BRel.st {size : Nat} {st seen sk : Int} {L : List Int} (h : BRel size st seen sk L) : st = 0 ∨ st = 1 ∨ st = 2 := by
  rcases h with h | h | h
  · exact .inl h.1
  · exact .inr (.inl h.1)
  · exact .inr (.inr h.1)
/-- The plan by the state. -/
theorem BRel.plan {size : Nat} {st seen sk : Int} {L : List Int} (h : BRel size st seen sk L) : nextP size L = if st = 2 then (true, sk, seen, 0, 0, 0) else (false, 0, 0, addrB size st sk) := by
  rcases h with ⟨rfl, rfl, rfl, rfl⟩ | ⟨rfl, hs, rfl, h1, h2, rfl, h3, h4⟩ | ⟨rfl, _, _, h⟩
  · rfl
  · simp only [nextP]
    rw [if_neg (by omega), h2]
    simp only
    rw [if_neg (by omega)]
    rfl
  · rw [h]; rfl
/-- A step. -/
theorem BRel.step {size : Nat} (hs1 : 1 ≤ size) {st seen sk : Int} {L : List Int} (h : BRel size st seen sk L) (h2 : st ≠ 2) (v : Int) : BRel size (stepB size st seen sk v).1 (stepB size st seen sk v).2.1 (stepB size st seen sk v).2.2.1 (L ++ [v]) ∧ (stepB size st seen sk v).2.2.2 = if (nextP size (L ++ [v])).1 then 3 else 2 := by
  rcases h with ⟨rfl, rfl, rfl, rfl⟩ | ⟨rfl, hs, rfl, h1, h2, rfl, h3, h4⟩ | ⟨rfl, _⟩
  · unfold stepB
    rw [if_pos rfl]
    by_cases hv : v < 1
    · rw [if_pos hv]
      have e : nextP size ([] ++ [v]) = (true, 0, v, 0, 0, 0) := by simp [nextP, hv]
      exact ⟨.inr (.inr ⟨rfl, by simp, by simp, e⟩), by rw [e]; rfl⟩
    · rw [if_neg hv]
      have e : (nextP size ([] ++ [v])).1 = false := by
        simp only [List.nil_append, nextP, scanO]
        rw [if_neg hv, if_neg (by simp; omega)]
      exact ⟨.inr (.inl ⟨rfl, [], rfl, by show (1 : Int) ≤ v; omega, rfl, by simp, by show (1 : Int) ≤ v; omega, by simp; omega⟩), by rw [e]; rfl⟩
  · have hsn := scanO_snoc seen hs 0 v
    rw [h2] at hsn
    simp only [Nat.zero_add] at hsn
    unfold stepB
    rw [if_neg (by decide)]
    by_cases ho : overB v (seen - hs.length) = true
    · rw [if_pos ho]
      rw [if_pos ho] at hsn
      have e : nextP size (seen :: hs ++ [v]) = (true, seen - hs.length, seen, 0, 0, 0) := by
        simp only [List.cons_append, nextP]
        rw [if_neg (by omega), hsn]
      exact ⟨.inr (.inr ⟨rfl, by simp, by simp; omega, e⟩), by rw [e]; rfl⟩
    · rw [if_neg ho]
      rw [if_neg ho] at hsn
      by_cases hc : seen - hs.length - 1 < 1 ∨ seen - hs.length - 1 = seen - size
      · rw [if_pos hc]
        have e : nextP size (seen :: hs ++ [v]) = (true, seen - hs.length - 1, seen, 0, 0, 0) := by
          simp only [List.cons_append, nextP]
          rw [if_neg (by omega), hsn]
          simp only [List.length_append, List.length_cons, List.length_nil]
          rw [if_pos (by omega)]
          simp; omega
        exact ⟨.inr (.inr ⟨rfl, by simp, by simp; omega, e⟩), by rw [e]; rfl⟩
      · rw [if_neg hc]
        have e : (nextP size (seen :: hs ++ [v])).1 = false := by
          simp only [List.cons_append, nextP]
          rw [if_neg (by omega), hsn]
          simp only [List.length_append, List.length_cons, List.length_nil]
          rw [if_neg (by omega)]
        exact ⟨.inr (.inl ⟨rfl, hs ++ [v], rfl, h1, hsn, by show seen - (hs.length : Int) - 1 = _; simp; omega, by show (1 : Int) ≤ seen - (hs.length : Int) - 1; omega, by simp; omega⟩), by rw [e]; rfl⟩
  · exact absurd rfl h2
end Go.Proofs.Ytecbnialcnplkaa
namespace Go.Proofs.Ytecbnialcnplkaa
open Go.RowKit
/-- The machine behind s steps, not through. -/
def EInv (n s : Nat) (st seen sk : Int) : Prop := (st = 0 ∧ s = 0) ∨ (st = 1 ∧ 1 ≤ sk ∧ sk ≤ seen ∧ seen ≤ 9223372036854775807 ∧ (s : Int) = seen - sk + 1 ∧ s ≤ n)
/-- A step goes on, or is the last. -/
theorem EInv.step {n s : Nat} {st seen sk : Int} (h : EInv n s st seen sk) (hn : 1 ≤ n) (v : Int) (hv : I64 v) (st' seen' sk' kd : Int) (hs : stepB n st seen sk v = (st', seen', sk', kd)) :
    (EInv n (s + 1) st' seen' sk' ∧ kd = 2 ∧ st' = 1) ∨ (st' = 2 ∧ kd = 3 ∧ 0 ≤ sk' ∧ (0 ≤ seen' → sk' ≤ seen') ∧ s ≤ n) := by
  obtain ⟨hv1, hv2⟩ := hv
  unfold stepB at hs
  rcases h with ⟨rfl, rfl⟩ | ⟨rfl, h1, h2, h3, h4, h5⟩
  · rw [if_pos rfl] at hs
    by_cases hc : v < 1
    · rw [if_pos hc] at hs
      obtain ⟨rfl, rfl, rfl, rfl⟩ : 2 = st' ∧ v = seen' ∧ 0 = sk' ∧ 3 = kd := by simpa using hs
      right; omega
    · rw [if_neg hc] at hs
      obtain ⟨rfl, rfl, rfl, rfl⟩ : 1 = st' ∧ v = seen' ∧ v = sk' ∧ 2 = kd := by simpa using hs
      left
      exact ⟨.inr ⟨rfl, by omega, by omega, by omega, by omega, by omega⟩, rfl, rfl⟩
  · rw [if_neg (by decide)] at hs
    by_cases ho : overB v sk = true
    · rw [if_pos ho] at hs
      obtain ⟨rfl, rfl, rfl, rfl⟩ : 2 = st' ∧ seen = seen' ∧ sk = sk' ∧ 3 = kd := by simpa using hs
      right; omega
    · rw [if_neg ho] at hs
      by_cases hc : sk - 1 < 1 ∨ sk - 1 = seen - n
      · rw [if_pos hc] at hs
        obtain ⟨rfl, rfl, rfl, rfl⟩ : 2 = st' ∧ seen = seen' ∧ sk - 1 = sk' ∧ 3 = kd := by simpa using hs
        right; omega
      · rw [if_neg hc] at hs
        obtain ⟨rfl, rfl, rfl, rfl⟩ : 1 = st' ∧ seen = seen' ∧ sk - 1 = sk' ∧ 2 = kd := by simpa using hs
        left
        exact ⟨.inr ⟨rfl, by omega, by omega, by omega, by omega, by omega⟩, rfl, rfl⟩
theorem EInv.rng {n s : Nat} {st seen sk : Int} (h : EInv n s st seen sk) : (st = 0 ∨ (st = 1 ∧ 1 ≤ sk ∧ sk ≤ seen ∧ seen ≤ 9223372036854775807)) ∧ s ≤ n + 1 ∧ (1 ≤ n → s ≤ n) := by
  rcases h with ⟨rfl, rfl⟩ | ⟨rfl, h1, h2, h3, h4, h5⟩
  · exact ⟨.inl rfl, by omega, by omega⟩
  · exact ⟨.inr ⟨rfl, h1, h2, h3⟩, by omega, by omega⟩
end Go.Proofs.Ytecbnialcnplkaa
