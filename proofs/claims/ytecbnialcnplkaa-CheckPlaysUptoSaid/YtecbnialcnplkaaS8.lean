/- Plain: the check of what was read. -/
import Derived.Test.YtecbnialcnplkaaS1
import Derived.Test.YtecbnialcnplkaaS2
namespace Go.Proofs.Ytecbnialcnplkaa
open Go.RowKit
/-- The next word of a signature that isn't 0, from k on; 8: none. -/
def nextW (rs : Nat → Int) (k : Nat) : Nat :=
  if k < 8 then if rs k = 0 then nextW rs (k + 1) else k else 8
termination_by 8 - k
theorem nextW_le (rs : Nat → Int) (k : Nat) : nextW rs k ≤ 8 := by
  unfold nextW
  split
  · split
    · exact nextW_le rs (k + 1)
    · omega
  · omega
termination_by 8 - k
theorem nextW_ge (rs : Nat → Int) (k : Nat) (h : k ≤ 8) : k ≤ nextW rs k := by
  unfold nextW
  split
  · split
    · have := nextW_ge rs (k + 1) (by omega)
      omega
    · omega
  · omega
termination_by 8 - k
theorem nextW_zero {rs : Nat → Int} {k : Nat} (h : k < 8) (hz : rs k = 0) : nextW rs k = nextW rs (k + 1) := by
  rw [nextW, if_pos h, if_pos hz]
theorem nextW_here {rs : Nat → Int} {k : Nat} (h : k < 8) (hz : rs k ≠ 0) : nextW rs k = k := by
  rw [nextW, if_pos h, if_neg hz]
theorem nextW_end (rs : Nat → Int) : nextW rs 8 = 8 := by
  rw [nextW, if_neg (by decide)]
/-- Is a stamp above the start by more than the size? -/
def farB (size : Nat) (fr n : Int) : Bool := decide (fr < n) && decide ((size : Int) < n - fr)
/-- The check's numbers. -/
structure CS where
  st : Int
  start : Int
  seen : Int
  sk : Int
  word : Int
/-- What is loaded next. -/
def addrK (size : Nat) (s : CS) : Int × Int × Int := if s.st = 0 ∨ s.st = 3 then (1, 0, 0) else if s.st = 1 then (2, slotZ s.sk size, 0) else (3, slotZ s.sk size, s.word)
/-- All words 0? -/
def zeroS (rs : Nat → Int) : Bool := nextW rs 0 == 8
/-- A step: the numbers behind it, the kind, the error. -/
def stepK (size : Nat) (fr : Int) (rs : Nat → Int) (last : Bool) (s : CS) (v : Int) : CS × Int × Int :=
  if s.st = 0 then
    if zeroS rs = true ∨ v ≤ fr then ({ s with st := 4, seen := v }, 3, 0)
    else if farB size fr v = true then ({ s with st := 5, seen := v }, 4, 4)
    else ({ s with st := 1, seen := v, sk := fr + 1 }, 2, 0)
  else if s.st = 1 then
    if v / 2 < s.sk then (s, 1, 0)
    else if s.sk < v / 2 then ({ s with st := 5 }, 4, 4)
    else ({ s with st := 2, start := if v % 2 = 1 ∧ s.start = s.sk - 1 then s.sk else s.start, word := nextW rs 0 }, 2, 0)
  else if s.st = 2 then
    if bits .and .u64 (IntKind.u64.wrap v) (rs s.word.toNat) ≠ 0 then ({ s with st := 5 }, 4, 3)
    else if nextW rs (s.word.toNat + 1) < 8 then ({ s with word := nextW rs (s.word.toNat + 1) }, 2, 0)
    else if s.sk < s.seen then ({ s with st := 1, sk := s.sk + 1, word := nextW rs (s.word.toNat + 1) }, 2, 0)
    else if last = true then ({ s with st := 3, word := nextW rs (s.word.toNat + 1) }, 2, 0)
    else ({ s with st := 4, word := nextW rs (s.word.toNat + 1) }, 3, 0)
  else
    if farB size fr v = true then ({ s with st := 5 }, 4, 4) else ({ s with st := 4 }, 3, 0)
end Go.Proofs.Ytecbnialcnplkaa
