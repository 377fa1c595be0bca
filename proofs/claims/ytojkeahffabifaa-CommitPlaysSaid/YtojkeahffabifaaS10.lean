/- Plain: an entry is published. -/
import Derived.Test.YtojkeahffabifaaS8
namespace Go.Proofs.Ytojkeahffabifaa
/-- The machine's numbers. -/
structure MS where
  st : Int
  seen : Int
  stamp : Int
  s : CS
/-- Must one look at a head? -/
def needB (mu : Bool) (seen : Int) : Bool := mu || decide (1 ≤ seen)
/-- Of which stamp's slot. -/
def lookZ (mu : Bool) (seen : Int) : Int := if mu = true then seen + 1 else seen
/-- May one go on? -/
def lookB (n : Nat) (mu : Bool) (seen v : Int) : Bool := if mu = true then freeB v (seen + 1) n else overB v seen
/-- What is accessed next. -/
def addrM (n : Nat) (mu : Bool) (m : MS) : Int × Int × Int := if m.st = 0 then addrK n m.s else if m.st = 1 then (2, slotZ (lookZ mu m.seen) n, 0) else (1, 0, 0)
/-- A step by what stands there: the numbers behind it, the kind, the error, the value. -/
def stepM (n : Nat) (fr : Int) (rs : Nat → Int) (last : Int) (mu : Bool) (m : MS) (v : Int) : MS × Int × Int × Int :=
  if m.st = 0 then
    if (stepK n fr rs false m.s v).2.1 = 4 then (⟨4, m.seen, m.stamp, (stepK n fr rs false m.s v).1⟩, 4, (stepK n fr rs false m.s v).2.2, 0)
    else if (stepK n fr rs false m.s v).2.1 = 3 then
      if (stepK n fr rs false m.s v).1.seen < 0 ∨ last ≤ (stepK n fr rs false m.s v).1.seen then (⟨4, (stepK n fr rs false m.s v).1.seen, m.stamp, (stepK n fr rs false m.s v).1⟩, 4, 6, 0)
      else (⟨if needB mu (stepK n fr rs false m.s v).1.seen = true then 1 else 2, (stepK n fr rs false m.s v).1.seen, m.stamp, (stepK n fr rs false m.s v).1⟩, 2, 0, 0)
    else (⟨0, m.seen, m.stamp, (stepK n fr rs false m.s v).1⟩, (stepK n fr rs false m.s v).2.1, (stepK n fr rs false m.s v).2.2, 0)
  else if m.st = 1 then if lookB n mu m.seen v = true then (⟨2, m.seen, m.stamp, m.s⟩, 2, 0, 0) else (m, 1, 0, 0)
  else if v = m.seen then (⟨3, m.seen, m.seen + 1, m.s⟩, 3, 0, m.seen + 1)
  else (⟨0, m.seen, m.stamp, ⟨0, fr, 0, 0, 0⟩⟩, 2, 0, 0)
end Go.Proofs.Ytojkeahffabifaa
