/-
  No cell of these rows narrows 'for every input' (looked for: loops, veiled, ifaces, maps, wideKeys, modest, calm, conditions, laid).
  DERIVED. THE GIVEN ROWS OF THIS SEAT. 10 by the template 'for every input the law returns true; each argument reads behind the call as it read before'; 0 by the template 'total and deterministic' (their statements: YtojnlkbfhodaaaaTotals.lean).
  GIVEN WITH THE SEED: the statements are not yours to turn. If you find one false, say at which input.
  Laid BY PROGRAM, IN A SANDBOX (cutbox-rows.mjs): the forced cells as the released guide's own fill.sh prints them over the translation eb18714555b6149e… (all of the seat's roots in one cut). By AI agents, Wed Nov 11 2026. No macro, syntax, notation, axiom, sorry.
-/
import Derived.Test.YtojnlkbfhodaaaaChecked
import GoSem.Claim
import GoSem.ClaimJoined
import GoSem.ClaimMapViews
import Derived.JoinedTies
import Derived.KernelRfl
namespace Go.Proofs.Ytojnlkbfhodaaaa
/- THE CELL 'sum', in the pinned program and in every row, IS THE sha256 OF THE DUMP (.gsa) THAT YtojnlkbfhodaaaaProg.lean LOADS. Nothing in Lean hashes anything: it is a label: what it is worth is what the hold of that sum in a sandbox is worth. -/
noncomputable def Try.pinned : Pinned := { name := "ytojnlkbfhodaaaa", sum := "eb18714555b6149e583a53b5156f764ba5e0c87224902a4d4d7f1d2ff65628da", checked := Try.checked }
namespace Rows
def none {H : Type} : Left H := { results := [], args := [] }

/-- 'carousellaw04.RingSlots': WHATEVER THE INPUT: true; the input reads as it did. -/
def ringSlotsSpec : ChangeSpec := { name := "ringSlots", fn := fun _ => fun
  | [d1, d2] => { results := [.lit (.bool true)], args := [d1, d2] }
  | _ => none }
def ringSlotsRow : OpenClaim := { program := "ytojnlkbfhodaaaa", sum := "eb18714555b6149e583a53b5156f764ba5e0c87224902a4d4d7f1d2ff65628da", func := "carousel/carousellaw04.RingSlots", spec := "ringSlots", apart := false }
def RingSlotsSaid : Prop := ringSlotsRow.holds Try.pinned (OpenSpec.ofChange ringSlotsSpec)

/-- ITS FALSE NEIGHBOUR: 'it returns false'. Refute it at one input. -/
def ringSlotsWrong : ChangeSpec := { name := "ringSlots", fn := fun _ => fun
  | [d1, d2] => { results := [.lit (.bool false)], args := [d1, d2] }
  | _ => none }
def RingSlotsWrongFalsely : Prop := ringSlotsRow.holds Try.pinned (OpenSpec.ofChange ringSlotsWrong)

/-- 'carousellaw04.RingHeads': WHATEVER THE INPUT: true; the input reads as it did. -/
def ringHeadsSpec : ChangeSpec := { name := "ringHeads", fn := fun _ => fun
  | [d1, d2, d3] => { results := [.lit (.bool true)], args := [d1, d2, d3] }
  | _ => none }
def ringHeadsRow : OpenClaim := { program := "ytojnlkbfhodaaaa", sum := "eb18714555b6149e583a53b5156f764ba5e0c87224902a4d4d7f1d2ff65628da", func := "carousel/carousellaw04.RingHeads", spec := "ringHeads", apart := false }
def RingHeadsSaid : Prop := ringHeadsRow.holds Try.pinned (OpenSpec.ofChange ringHeadsSpec)

/-- ITS FALSE NEIGHBOUR: 'it returns false'. Refute it at one input. -/
def ringHeadsWrong : ChangeSpec := { name := "ringHeads", fn := fun _ => fun
  | [d1, d2, d3] => { results := [.lit (.bool false)], args := [d1, d2, d3] }
  | _ => none }
def RingHeadsWrongFalsely : Prop := ringHeadsRow.holds Try.pinned (OpenSpec.ofChange ringHeadsWrong)

/-- 'carousellaw01.ShiftApart': WHATEVER THE INPUT: true; the input reads as it did. -/
def shiftApartSpec : ChangeSpec := { name := "shiftApart", fn := fun _ => fun
  | [d1, d2] => { results := [.lit (.bool true)], args := [d1, d2] }
  | _ => none }
def shiftApartRow : OpenClaim := { program := "ytojnlkbfhodaaaa", sum := "eb18714555b6149e583a53b5156f764ba5e0c87224902a4d4d7f1d2ff65628da", func := "carousel/carousellaw01.ShiftApart", spec := "shiftApart", apart := false }
def ShiftApartSaid : Prop := shiftApartRow.holds Try.pinned (OpenSpec.ofChange shiftApartSpec)

/-- ITS FALSE NEIGHBOUR: 'it returns false'. Refute it at one input. -/
def shiftApartWrong : ChangeSpec := { name := "shiftApart", fn := fun _ => fun
  | [d1, d2] => { results := [.lit (.bool false)], args := [d1, d2] }
  | _ => none }
def ShiftApartWrongFalsely : Prop := shiftApartRow.holds Try.pinned (OpenSpec.ofChange shiftApartWrong)

/-- 'carousellaw01.ShiftMixes': WHATEVER THE INPUT: true; the input reads as it did. -/
def shiftMixesSpec : ChangeSpec := { name := "shiftMixes", fn := fun _ => fun
  | [d1, d2] => { results := [.lit (.bool true)], args := [d1, d2] }
  | _ => none }
def shiftMixesRow : OpenClaim := { program := "ytojnlkbfhodaaaa", sum := "eb18714555b6149e583a53b5156f764ba5e0c87224902a4d4d7f1d2ff65628da", func := "carousel/carousellaw01.ShiftMixes", spec := "shiftMixes", apart := false }
def ShiftMixesSaid : Prop := shiftMixesRow.holds Try.pinned (OpenSpec.ofChange shiftMixesSpec)

/-- ITS FALSE NEIGHBOUR: 'it returns false'. Refute it at one input. -/
def shiftMixesWrong : ChangeSpec := { name := "shiftMixes", fn := fun _ => fun
  | [d1, d2] => { results := [.lit (.bool false)], args := [d1, d2] }
  | _ => none }
def ShiftMixesWrongFalsely : Prop := shiftMixesRow.holds Try.pinned (OpenSpec.ofChange shiftMixesWrong)

/-- 'carousellaw01.ShiftHeads': WHATEVER THE INPUT: true; the input reads as it did. -/
def shiftHeadsSpec : ChangeSpec := { name := "shiftHeads", fn := fun _ => fun
  | [d1, d2, d3] => { results := [.lit (.bool true)], args := [d1, d2, d3] }
  | _ => none }
def shiftHeadsRow : OpenClaim := { program := "ytojnlkbfhodaaaa", sum := "eb18714555b6149e583a53b5156f764ba5e0c87224902a4d4d7f1d2ff65628da", func := "carousel/carousellaw01.ShiftHeads", spec := "shiftHeads", apart := false }
def ShiftHeadsSaid : Prop := shiftHeadsRow.holds Try.pinned (OpenSpec.ofChange shiftHeadsSpec)

/-- ITS FALSE NEIGHBOUR: 'it returns false'. Refute it at one input. -/
def shiftHeadsWrong : ChangeSpec := { name := "shiftHeads", fn := fun _ => fun
  | [d1, d2, d3] => { results := [.lit (.bool false)], args := [d1, d2, d3] }
  | _ => none }
def ShiftHeadsWrongFalsely : Prop := shiftHeadsRow.holds Try.pinned (OpenSpec.ofChange shiftHeadsWrong)

/-- 'carousellaw01.ShiftShifts': WHATEVER THE INPUT: true; the input reads as it did. -/
def shiftShiftsSpec : ChangeSpec := { name := "shiftShifts", fn := fun _ => fun
  | [d1, d2] => { results := [.lit (.bool true)], args := [d1, d2] }
  | _ => none }
def shiftShiftsRow : OpenClaim := { program := "ytojnlkbfhodaaaa", sum := "eb18714555b6149e583a53b5156f764ba5e0c87224902a4d4d7f1d2ff65628da", func := "carousel/carousellaw01.ShiftShifts", spec := "shiftShifts", apart := false }
def ShiftShiftsSaid : Prop := shiftShiftsRow.holds Try.pinned (OpenSpec.ofChange shiftShiftsSpec)

/-- ITS FALSE NEIGHBOUR: 'it returns false'. Refute it at one input. -/
def shiftShiftsWrong : ChangeSpec := { name := "shiftShifts", fn := fun _ => fun
  | [d1, d2] => { results := [.lit (.bool false)], args := [d1, d2] }
  | _ => none }
def ShiftShiftsWrongFalsely : Prop := shiftShiftsRow.holds Try.pinned (OpenSpec.ofChange shiftShiftsWrong)

/-- 'carousellaw01.ShiftTurns': WHATEVER THE INPUT: true; the input reads as it did. -/
def shiftTurnsSpec : ChangeSpec := { name := "shiftTurns", fn := fun _ => fun
  | [d1, d2] => { results := [.lit (.bool true)], args := [d1, d2] }
  | _ => none }
def shiftTurnsRow : OpenClaim := { program := "ytojnlkbfhodaaaa", sum := "eb18714555b6149e583a53b5156f764ba5e0c87224902a4d4d7f1d2ff65628da", func := "carousel/carousellaw01.ShiftTurns", spec := "shiftTurns", apart := false }
def ShiftTurnsSaid : Prop := shiftTurnsRow.holds Try.pinned (OpenSpec.ofChange shiftTurnsSpec)

/-- ITS FALSE NEIGHBOUR: 'it returns false'. Refute it at one input. -/
def shiftTurnsWrong : ChangeSpec := { name := "shiftTurns", fn := fun _ => fun
  | [d1, d2] => { results := [.lit (.bool false)], args := [d1, d2] }
  | _ => none }
def ShiftTurnsWrongFalsely : Prop := shiftTurnsRow.holds Try.pinned (OpenSpec.ofChange shiftTurnsWrong)

/-- 'carousellaw01.ShiftBytes': WHATEVER THE INPUT: true; the input reads as it did. -/
def shiftBytesSpec : ChangeSpec := { name := "shiftBytes", fn := fun _ => fun
  | [d1, d2, d3] => { results := [.lit (.bool true)], args := [d1, d2, d3] }
  | _ => none }
def shiftBytesRow : OpenClaim := { program := "ytojnlkbfhodaaaa", sum := "eb18714555b6149e583a53b5156f764ba5e0c87224902a4d4d7f1d2ff65628da", func := "carousel/carousellaw01.ShiftBytes", spec := "shiftBytes", apart := false }
def ShiftBytesSaid : Prop := shiftBytesRow.holds Try.pinned (OpenSpec.ofChange shiftBytesSpec)

/-- ITS FALSE NEIGHBOUR: 'it returns false'. Refute it at one input. -/
def shiftBytesWrong : ChangeSpec := { name := "shiftBytes", fn := fun _ => fun
  | [d1, d2, d3] => { results := [.lit (.bool false)], args := [d1, d2, d3] }
  | _ => none }
def ShiftBytesWrongFalsely : Prop := shiftBytesRow.holds Try.pinned (OpenSpec.ofChange shiftBytesWrong)

/-- 'carousellaw01.ShiftBack': WHATEVER THE INPUT: true; the input reads as it did. -/
def shiftBackSpec : ChangeSpec := { name := "shiftBack", fn := fun _ => fun
  | [d] => { results := [.lit (.bool true)], args := [d] }
  | _ => none }
def shiftBackRow : OpenClaim := { program := "ytojnlkbfhodaaaa", sum := "eb18714555b6149e583a53b5156f764ba5e0c87224902a4d4d7f1d2ff65628da", func := "carousel/carousellaw01.ShiftBack", spec := "shiftBack", apart := false }
def ShiftBackSaid : Prop := shiftBackRow.holds Try.pinned (OpenSpec.ofChange shiftBackSpec)

/-- ITS FALSE NEIGHBOUR: 'it returns false'. Refute it at one input. -/
def shiftBackWrong : ChangeSpec := { name := "shiftBack", fn := fun _ => fun
  | [d] => { results := [.lit (.bool false)], args := [d] }
  | _ => none }
def ShiftBackWrongFalsely : Prop := shiftBackRow.holds Try.pinned (OpenSpec.ofChange shiftBackWrong)

/-- 'carousellaw01.ShiftNarrows': WHATEVER THE INPUT: true; the input reads as it did. -/
def shiftNarrowsSpec : ChangeSpec := { name := "shiftNarrows", fn := fun _ => fun
  | [d1, d2] => { results := [.lit (.bool true)], args := [d1, d2] }
  | _ => none }
def shiftNarrowsRow : OpenClaim := { program := "ytojnlkbfhodaaaa", sum := "eb18714555b6149e583a53b5156f764ba5e0c87224902a4d4d7f1d2ff65628da", func := "carousel/carousellaw01.ShiftNarrows", spec := "shiftNarrows", apart := false }
def ShiftNarrowsSaid : Prop := shiftNarrowsRow.holds Try.pinned (OpenSpec.ofChange shiftNarrowsSpec)

/-- ITS FALSE NEIGHBOUR: 'it returns false'. Refute it at one input. -/
def shiftNarrowsWrong : ChangeSpec := { name := "shiftNarrows", fn := fun _ => fun
  | [d1, d2] => { results := [.lit (.bool false)], args := [d1, d2] }
  | _ => none }
def ShiftNarrowsWrongFalsely : Prop := shiftNarrowsRow.holds Try.pinned (OpenSpec.ofChange shiftNarrowsWrong)

/- THE SECOND FORM. 'bulk': how many values and letters a reading holds, each counted each time it is reached (what is shared counts as often as it is met; a slice's spare places count too). A statement '..UptoSaid' is the law's where the arguments, and the package variables that the reading takes, are together of bulk at most 1048576: NARROWER than '..Said'. Prove '..Said' where nothing that the law and all that it calls make is longer than what came in: it says more and counts as full. Else prove '..UptoSaid'. A law counts once. -/
mutual
def uptoBulk {H : Type} : DataW H → Nat
  | .lit (.string bytes) => bytes.length + 1
  | .lit _ => 1
  | .nil => 1
  | .ptr d => uptoBulk d + 1
  | .slice elems spare => uptoBulkAll elems + uptoBulkAll spare + 1
  | .agg parts => uptoBulkAll parts + 1
  | .iface _ d => uptoBulk d + 1
  | .map entries => uptoBulkEntries entries + 1
  | .held _ => 1
def uptoBulkAll {H : Type} : List (DataW H) → Nat
  | [] => 0
  | d :: r => uptoBulk d + uptoBulkAll r
def uptoBulkEntries {H : Type} : List (Lit × DataW H) → Nat
  | [] => 0
  | x :: r => uptoBulkEntry x + uptoBulkEntries r
def uptoBulkEntry {H : Type} : Lit × DataW H → Nat
  | (.string bytes, d) => bytes.length + uptoBulk d + 1
  | (_, d) => uptoBulk d + 1
 end
def uptoSmall : (H : Type) → List (DataW H) → Bool := fun _ ds => decide (uptoBulkAll ds ≤ 1048576)
def OpenSpec.upto (s : _root_.Go.ChangeSpec) : _root_.Go.OpenSpec := { _root_.Go.OpenSpec.ofChange s with cond := some uptoSmall }

/-- 'carousellaw04.RingSlots', WHERE WHAT IT READS IS OF BULK AT MOST 1048576: true; the input reads as it did. -/
def ringSlotsUptoRow : OpenClaim := { program := "ytojnlkbfhodaaaa", sum := "eb18714555b6149e583a53b5156f764ba5e0c87224902a4d4d7f1d2ff65628da", func := "carousel/carousellaw04.RingSlots", spec := "ringSlots", apart := false, narrowed := true }
def RingSlotsUptoSaid : Prop := ringSlotsUptoRow.holds Try.pinned (OpenSpec.upto ringSlotsSpec)

/-- 'carousellaw04.RingHeads', WHERE WHAT IT READS IS OF BULK AT MOST 1048576: true; the input reads as it did. -/
def ringHeadsUptoRow : OpenClaim := { program := "ytojnlkbfhodaaaa", sum := "eb18714555b6149e583a53b5156f764ba5e0c87224902a4d4d7f1d2ff65628da", func := "carousel/carousellaw04.RingHeads", spec := "ringHeads", apart := false, narrowed := true }
def RingHeadsUptoSaid : Prop := ringHeadsUptoRow.holds Try.pinned (OpenSpec.upto ringHeadsSpec)

/-- 'carousellaw01.ShiftApart', WHERE WHAT IT READS IS OF BULK AT MOST 1048576: true; the input reads as it did. -/
def shiftApartUptoRow : OpenClaim := { program := "ytojnlkbfhodaaaa", sum := "eb18714555b6149e583a53b5156f764ba5e0c87224902a4d4d7f1d2ff65628da", func := "carousel/carousellaw01.ShiftApart", spec := "shiftApart", apart := false, narrowed := true }
def ShiftApartUptoSaid : Prop := shiftApartUptoRow.holds Try.pinned (OpenSpec.upto shiftApartSpec)

/-- 'carousellaw01.ShiftMixes', WHERE WHAT IT READS IS OF BULK AT MOST 1048576: true; the input reads as it did. -/
def shiftMixesUptoRow : OpenClaim := { program := "ytojnlkbfhodaaaa", sum := "eb18714555b6149e583a53b5156f764ba5e0c87224902a4d4d7f1d2ff65628da", func := "carousel/carousellaw01.ShiftMixes", spec := "shiftMixes", apart := false, narrowed := true }
def ShiftMixesUptoSaid : Prop := shiftMixesUptoRow.holds Try.pinned (OpenSpec.upto shiftMixesSpec)

/-- 'carousellaw01.ShiftHeads', WHERE WHAT IT READS IS OF BULK AT MOST 1048576: true; the input reads as it did. -/
def shiftHeadsUptoRow : OpenClaim := { program := "ytojnlkbfhodaaaa", sum := "eb18714555b6149e583a53b5156f764ba5e0c87224902a4d4d7f1d2ff65628da", func := "carousel/carousellaw01.ShiftHeads", spec := "shiftHeads", apart := false, narrowed := true }
def ShiftHeadsUptoSaid : Prop := shiftHeadsUptoRow.holds Try.pinned (OpenSpec.upto shiftHeadsSpec)

/-- 'carousellaw01.ShiftShifts', WHERE WHAT IT READS IS OF BULK AT MOST 1048576: true; the input reads as it did. -/
def shiftShiftsUptoRow : OpenClaim := { program := "ytojnlkbfhodaaaa", sum := "eb18714555b6149e583a53b5156f764ba5e0c87224902a4d4d7f1d2ff65628da", func := "carousel/carousellaw01.ShiftShifts", spec := "shiftShifts", apart := false, narrowed := true }
def ShiftShiftsUptoSaid : Prop := shiftShiftsUptoRow.holds Try.pinned (OpenSpec.upto shiftShiftsSpec)

/-- 'carousellaw01.ShiftTurns', WHERE WHAT IT READS IS OF BULK AT MOST 1048576: true; the input reads as it did. -/
def shiftTurnsUptoRow : OpenClaim := { program := "ytojnlkbfhodaaaa", sum := "eb18714555b6149e583a53b5156f764ba5e0c87224902a4d4d7f1d2ff65628da", func := "carousel/carousellaw01.ShiftTurns", spec := "shiftTurns", apart := false, narrowed := true }
def ShiftTurnsUptoSaid : Prop := shiftTurnsUptoRow.holds Try.pinned (OpenSpec.upto shiftTurnsSpec)

/-- 'carousellaw01.ShiftBytes', WHERE WHAT IT READS IS OF BULK AT MOST 1048576: true; the input reads as it did. -/
def shiftBytesUptoRow : OpenClaim := { program := "ytojnlkbfhodaaaa", sum := "eb18714555b6149e583a53b5156f764ba5e0c87224902a4d4d7f1d2ff65628da", func := "carousel/carousellaw01.ShiftBytes", spec := "shiftBytes", apart := false, narrowed := true }
def ShiftBytesUptoSaid : Prop := shiftBytesUptoRow.holds Try.pinned (OpenSpec.upto shiftBytesSpec)

/-- 'carousellaw01.ShiftBack', WHERE WHAT IT READS IS OF BULK AT MOST 1048576: true; the input reads as it did. -/
def shiftBackUptoRow : OpenClaim := { program := "ytojnlkbfhodaaaa", sum := "eb18714555b6149e583a53b5156f764ba5e0c87224902a4d4d7f1d2ff65628da", func := "carousel/carousellaw01.ShiftBack", spec := "shiftBack", apart := false, narrowed := true }
def ShiftBackUptoSaid : Prop := shiftBackUptoRow.holds Try.pinned (OpenSpec.upto shiftBackSpec)

/-- 'carousellaw01.ShiftNarrows', WHERE WHAT IT READS IS OF BULK AT MOST 1048576: true; the input reads as it did. -/
def shiftNarrowsUptoRow : OpenClaim := { program := "ytojnlkbfhodaaaa", sum := "eb18714555b6149e583a53b5156f764ba5e0c87224902a4d4d7f1d2ff65628da", func := "carousel/carousellaw01.ShiftNarrows", spec := "shiftNarrows", apart := false, narrowed := true }
def ShiftNarrowsUptoSaid : Prop := shiftNarrowsUptoRow.holds Try.pinned (OpenSpec.upto shiftNarrowsSpec)

end Rows
end Go.Proofs.Ytojnlkbfhodaaaa
