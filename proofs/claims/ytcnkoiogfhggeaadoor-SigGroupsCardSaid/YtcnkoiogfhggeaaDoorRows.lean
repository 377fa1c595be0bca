/-
  NARROWER THAN 'FOR EVERY INPUT', by the rows' own cells (each row's printed sentence says how): SigHolds: laid · SigBits: laid · SigJoins: laid · SigGroups: laid · SigCovers: laid · SigTexts: laid · SigLaws: laid.
  DERIVED. THE GIVEN ROWS OF THIS SEAT. 7 by the template 'for every input the law returns true; each argument reads behind the call as it read before'; 0 by the template 'total and deterministic' (their statements: YtcnkoiogfhggeaaDoorTotals.lean).
  GIVEN WITH THE SEED: the statements are not yours to turn. If you find one false, say at which input.
  Laid BY PROGRAM, IN A SANDBOX (cutbox-rows.mjs): the forced cells as the released guide's own fill.sh prints them over the translation 4765e8f2a3c55bad… (all of the seat's roots in one cut). By AI agents, Wed Nov 11 2026. No macro, syntax, notation, axiom, sorry.
-/
import Derived.Test.YtcnkoiogfhggeaaDoorChecked
import GoSem.Claim
import GoSem.ClaimJoined
import GoSem.ClaimMapViews
import Derived.JoinedTies
import Derived.KernelRfl
namespace Go.Proofs.YtcnkoiogfhggeaaDoor
/- THE CELL 'sum', in the pinned program and in every row, IS THE sha256 OF THE DUMP (.gsa) THAT YtcnkoiogfhggeaaDoorProg.lean LOADS. Nothing in Lean hashes anything: it is a label: what it is worth is what the hold of that sum in a sandbox is worth. -/
noncomputable def Tryd.pinned : Pinned := { name := "ytcnkoiogfhggeaadoor", sum := "4765e8f2a3c55bad072175e23e211e9925178d861c0aa49d7aebaf3f6f0fb51c", checked := Tryd.checked }
namespace Rows
def none {H : Type} : Left H := { results := [], args := [] }

/- WHAT THE LISTED PACKAGE-LEVEL VARIABLES READ AS WHEN THE CALL BEGINS. Each datum BY PROGRAM (the guide's laid-datum.mjs) off the statement by which the dump's own 'gosem.cut.vars' lays the variable. In a bare row this is a premise. The card (YtcnkoiogfhggeaaDoorCards.lean) ties it to the program's text. -/
def laid_math_bits_deBruijn64tab {H : Type} : DataW H := .agg [.lit (.int .u8 0), .lit (.int .u8 1), .lit (.int .u8 56), .lit (.int .u8 2), .lit (.int .u8 57), .lit (.int .u8 49), .lit (.int .u8 28), .lit (.int .u8 3), .lit (.int .u8 61), .lit (.int .u8 58), .lit (.int .u8 42), .lit (.int .u8 50), .lit (.int .u8 38), .lit (.int .u8 29), .lit (.int .u8 17), .lit (.int .u8 4), .lit (.int .u8 62), .lit (.int .u8 47), .lit (.int .u8 59), .lit (.int .u8 36), .lit (.int .u8 45), .lit (.int .u8 43), .lit (.int .u8 51), .lit (.int .u8 22), .lit (.int .u8 53), .lit (.int .u8 39), .lit (.int .u8 33), .lit (.int .u8 30), .lit (.int .u8 24), .lit (.int .u8 18), .lit (.int .u8 12), .lit (.int .u8 5), .lit (.int .u8 63), .lit (.int .u8 55), .lit (.int .u8 48), .lit (.int .u8 27), .lit (.int .u8 60), .lit (.int .u8 41), .lit (.int .u8 37), .lit (.int .u8 16), .lit (.int .u8 46), .lit (.int .u8 35), .lit (.int .u8 44), .lit (.int .u8 21), .lit (.int .u8 52), .lit (.int .u8 32), .lit (.int .u8 23), .lit (.int .u8 11), .lit (.int .u8 54), .lit (.int .u8 26), .lit (.int .u8 40), .lit (.int .u8 15), .lit (.int .u8 34), .lit (.int .u8 20), .lit (.int .u8 31), .lit (.int .u8 10), .lit (.int .u8 25), .lit (.int .u8 14), .lit (.int .u8 19), .lit (.int .u8 9), .lit (.int .u8 13), .lit (.int .u8 8), .lit (.int .u8 7), .lit (.int .u8 6)]

/-- 'carousellaw02.SigHolds': WHATEVER THE INPUT: true; the input reads as it did. -/
def sigHoldsSpec : ChangeSpec := { name := "sigHolds", fn := fun _ => fun
  | [d1, d2, d3] => { results := [.lit (.bool true)], args := [d1, d2, d3] }
  | _ => none }
def sigHoldsRow : OpenClaim := { program := "ytcnkoiogfhggeaadoor", sum := "4765e8f2a3c55bad072175e23e211e9925178d861c0aa49d7aebaf3f6f0fb51c", func := "carousel/carousellaw02.SigHolds", spec := "sigHolds", named := ["math/bits.deBruijn64tab"], plainKeys := false, apart := false, laid := [("math/bits.deBruijn64tab", laid_math_bits_deBruijn64tab)] }
def SigHoldsSaid : Prop := sigHoldsRow.holds Tryd.pinned (OpenSpec.ofChange sigHoldsSpec)

/-- ITS FALSE NEIGHBOUR: 'it returns false'. Refute it at one input. -/
def sigHoldsWrong : ChangeSpec := { name := "sigHolds", fn := fun _ => fun
  | [d1, d2, d3] => { results := [.lit (.bool false)], args := [d1, d2, d3] }
  | _ => none }
def SigHoldsWrongFalsely : Prop := sigHoldsRow.holds Tryd.pinned (OpenSpec.ofChange sigHoldsWrong)

/-- 'carousellaw02.SigBits': WHATEVER THE INPUT: true; the input reads as it did. -/
def sigBitsSpec : ChangeSpec := { name := "sigBits", fn := fun _ => fun
  | [d] => { results := [.lit (.bool true)], args := [d] }
  | _ => none }
def sigBitsRow : OpenClaim := { program := "ytcnkoiogfhggeaadoor", sum := "4765e8f2a3c55bad072175e23e211e9925178d861c0aa49d7aebaf3f6f0fb51c", func := "carousel/carousellaw02.SigBits", spec := "sigBits", named := ["math/bits.deBruijn64tab"], plainKeys := false, apart := false, laid := [("math/bits.deBruijn64tab", laid_math_bits_deBruijn64tab)] }
def SigBitsSaid : Prop := sigBitsRow.holds Tryd.pinned (OpenSpec.ofChange sigBitsSpec)

/-- ITS FALSE NEIGHBOUR: 'it returns false'. Refute it at one input. -/
def sigBitsWrong : ChangeSpec := { name := "sigBits", fn := fun _ => fun
  | [d] => { results := [.lit (.bool false)], args := [d] }
  | _ => none }
def SigBitsWrongFalsely : Prop := sigBitsRow.holds Tryd.pinned (OpenSpec.ofChange sigBitsWrong)

/-- 'carousellaw02.SigJoins': WHATEVER THE INPUT: true; the input reads as it did. -/
def sigJoinsSpec : ChangeSpec := { name := "sigJoins", fn := fun _ => fun
  | [d1, d2] => { results := [.lit (.bool true)], args := [d1, d2] }
  | _ => none }
def sigJoinsRow : OpenClaim := { program := "ytcnkoiogfhggeaadoor", sum := "4765e8f2a3c55bad072175e23e211e9925178d861c0aa49d7aebaf3f6f0fb51c", func := "carousel/carousellaw02.SigJoins", spec := "sigJoins", named := ["math/bits.deBruijn64tab"], plainKeys := false, apart := false, laid := [("math/bits.deBruijn64tab", laid_math_bits_deBruijn64tab)] }
def SigJoinsSaid : Prop := sigJoinsRow.holds Tryd.pinned (OpenSpec.ofChange sigJoinsSpec)

/-- ITS FALSE NEIGHBOUR: 'it returns false'. Refute it at one input. -/
def sigJoinsWrong : ChangeSpec := { name := "sigJoins", fn := fun _ => fun
  | [d1, d2] => { results := [.lit (.bool false)], args := [d1, d2] }
  | _ => none }
def SigJoinsWrongFalsely : Prop := sigJoinsRow.holds Tryd.pinned (OpenSpec.ofChange sigJoinsWrong)

/-- 'carousellaw02.SigGroups': WHATEVER THE INPUT: true; the input reads as it did. -/
def sigGroupsSpec : ChangeSpec := { name := "sigGroups", fn := fun _ => fun
  | [d] => { results := [.lit (.bool true)], args := [d] }
  | _ => none }
def sigGroupsRow : OpenClaim := { program := "ytcnkoiogfhggeaadoor", sum := "4765e8f2a3c55bad072175e23e211e9925178d861c0aa49d7aebaf3f6f0fb51c", func := "carousel/carousellaw02.SigGroups", spec := "sigGroups", named := ["math/bits.deBruijn64tab"], plainKeys := false, apart := false, laid := [("math/bits.deBruijn64tab", laid_math_bits_deBruijn64tab)] }
def SigGroupsSaid : Prop := sigGroupsRow.holds Tryd.pinned (OpenSpec.ofChange sigGroupsSpec)

/-- ITS FALSE NEIGHBOUR: 'it returns false'. Refute it at one input. -/
def sigGroupsWrong : ChangeSpec := { name := "sigGroups", fn := fun _ => fun
  | [d] => { results := [.lit (.bool false)], args := [d] }
  | _ => none }
def SigGroupsWrongFalsely : Prop := sigGroupsRow.holds Tryd.pinned (OpenSpec.ofChange sigGroupsWrong)

/-- 'carousellaw02.SigCovers': WHATEVER THE INPUT: true; the input reads as it did. -/
def sigCoversSpec : ChangeSpec := { name := "sigCovers", fn := fun _ => fun
  | [d1, d2, d3] => { results := [.lit (.bool true)], args := [d1, d2, d3] }
  | _ => none }
def sigCoversRow : OpenClaim := { program := "ytcnkoiogfhggeaadoor", sum := "4765e8f2a3c55bad072175e23e211e9925178d861c0aa49d7aebaf3f6f0fb51c", func := "carousel/carousellaw02.SigCovers", spec := "sigCovers", named := ["math/bits.deBruijn64tab"], plainKeys := false, apart := false, laid := [("math/bits.deBruijn64tab", laid_math_bits_deBruijn64tab)] }
def SigCoversSaid : Prop := sigCoversRow.holds Tryd.pinned (OpenSpec.ofChange sigCoversSpec)

/-- ITS FALSE NEIGHBOUR: 'it returns false'. Refute it at one input. -/
def sigCoversWrong : ChangeSpec := { name := "sigCovers", fn := fun _ => fun
  | [d1, d2, d3] => { results := [.lit (.bool false)], args := [d1, d2, d3] }
  | _ => none }
def SigCoversWrongFalsely : Prop := sigCoversRow.holds Tryd.pinned (OpenSpec.ofChange sigCoversWrong)

/-- 'carousellaw02.SigTexts': WHATEVER THE INPUT: true; the input reads as it did. -/
def sigTextsSpec : ChangeSpec := { name := "sigTexts", fn := fun _ => fun
  | [d1, d2] => { results := [.lit (.bool true)], args := [d1, d2] }
  | _ => none }
def sigTextsRow : OpenClaim := { program := "ytcnkoiogfhggeaadoor", sum := "4765e8f2a3c55bad072175e23e211e9925178d861c0aa49d7aebaf3f6f0fb51c", func := "carousel/carousellaw02.SigTexts", spec := "sigTexts", named := ["math/bits.deBruijn64tab"], plainKeys := false, apart := false, laid := [("math/bits.deBruijn64tab", laid_math_bits_deBruijn64tab)] }
def SigTextsSaid : Prop := sigTextsRow.holds Tryd.pinned (OpenSpec.ofChange sigTextsSpec)

/-- ITS FALSE NEIGHBOUR: 'it returns false'. Refute it at one input. -/
def sigTextsWrong : ChangeSpec := { name := "sigTexts", fn := fun _ => fun
  | [d1, d2] => { results := [.lit (.bool false)], args := [d1, d2] }
  | _ => none }
def SigTextsWrongFalsely : Prop := sigTextsRow.holds Tryd.pinned (OpenSpec.ofChange sigTextsWrong)

/-- 'carousellaw02.SigLaws': WHATEVER THE INPUT: true; the input reads as it did. -/
def sigLawsSpec : ChangeSpec := { name := "sigLaws", fn := fun _ => fun
  | [d1, d2, d3] => { results := [.lit (.bool true)], args := [d1, d2, d3] }
  | _ => none }
def sigLawsRow : OpenClaim := { program := "ytcnkoiogfhggeaadoor", sum := "4765e8f2a3c55bad072175e23e211e9925178d861c0aa49d7aebaf3f6f0fb51c", func := "carousel/carousellaw02.SigLaws", spec := "sigLaws", named := ["math/bits.deBruijn64tab"], plainKeys := false, apart := false, laid := [("math/bits.deBruijn64tab", laid_math_bits_deBruijn64tab)] }
def SigLawsSaid : Prop := sigLawsRow.holds Tryd.pinned (OpenSpec.ofChange sigLawsSpec)

/-- ITS FALSE NEIGHBOUR: 'it returns false'. Refute it at one input. -/
def sigLawsWrong : ChangeSpec := { name := "sigLaws", fn := fun _ => fun
  | [d1, d2, d3] => { results := [.lit (.bool false)], args := [d1, d2, d3] }
  | _ => none }
def SigLawsWrongFalsely : Prop := sigLawsRow.holds Tryd.pinned (OpenSpec.ofChange sigLawsWrong)

/- THE SECOND FORM. 'bulk': how many values and letters a reading holds, each counted each time it is reached (what is shared counts as often as it is met; a slice's spare places count too). A statement '..UptoSaid' is the law's where the arguments, and the package variables that the reading takes, are together of bulk at most 1048576: NARROWER than '..Said'. Prove '..Said' where nothing that the law and all that it calls make is longer than what came in: it says more and counts as full. Else prove '..UptoSaid'. A law counts once. -/
mutual
def uptoBulk {H : Type} : DataW H → Nat
  | .lit (.string bytes) => bytes.length + 1
  | .lit _ => 1
  | .nil => 1
  | .ptr d => uptoBulk d + 1
  | .slice elems spare => uptoBulkAll elems + uptoBulkAll spare + 1
  | .agg parts => uptoBulkAll parts + 1
  | .iface _ d => uptoBulk d + 1
  | .map entries => uptoBulkEntries entries + 1
  | .held _ => 1
def uptoBulkAll {H : Type} : List (DataW H) → Nat
  | [] => 0
  | d :: r => uptoBulk d + uptoBulkAll r
def uptoBulkEntries {H : Type} : List (Lit × DataW H) → Nat
  | [] => 0
  | x :: r => uptoBulkEntry x + uptoBulkEntries r
def uptoBulkEntry {H : Type} : Lit × DataW H → Nat
  | (.string bytes, d) => bytes.length + uptoBulk d + 1
  | (_, d) => uptoBulk d + 1
 end
def uptoSmall : (H : Type) → List (DataW H) → Bool := fun _ ds => decide (uptoBulkAll ds ≤ 1048576)
def OpenSpec.upto (s : _root_.Go.ChangeSpec) : _root_.Go.OpenSpec := { _root_.Go.OpenSpec.ofChange s with cond := some uptoSmall }

/-- 'carousellaw02.SigHolds', WHERE WHAT IT READS IS OF BULK AT MOST 1048576: true; the input reads as it did. -/
def sigHoldsUptoRow : OpenClaim := { program := "ytcnkoiogfhggeaadoor", sum := "4765e8f2a3c55bad072175e23e211e9925178d861c0aa49d7aebaf3f6f0fb51c", func := "carousel/carousellaw02.SigHolds", spec := "sigHolds", named := ["math/bits.deBruijn64tab"], plainKeys := false, apart := false, laid := [("math/bits.deBruijn64tab", laid_math_bits_deBruijn64tab)], narrowed := true }
def SigHoldsUptoSaid : Prop := sigHoldsUptoRow.holds Tryd.pinned (OpenSpec.upto sigHoldsSpec)

/-- 'carousellaw02.SigBits', WHERE WHAT IT READS IS OF BULK AT MOST 1048576: true; the input reads as it did. -/
def sigBitsUptoRow : OpenClaim := { program := "ytcnkoiogfhggeaadoor", sum := "4765e8f2a3c55bad072175e23e211e9925178d861c0aa49d7aebaf3f6f0fb51c", func := "carousel/carousellaw02.SigBits", spec := "sigBits", named := ["math/bits.deBruijn64tab"], plainKeys := false, apart := false, laid := [("math/bits.deBruijn64tab", laid_math_bits_deBruijn64tab)], narrowed := true }
def SigBitsUptoSaid : Prop := sigBitsUptoRow.holds Tryd.pinned (OpenSpec.upto sigBitsSpec)

/-- 'carousellaw02.SigJoins', WHERE WHAT IT READS IS OF BULK AT MOST 1048576: true; the input reads as it did. -/
def sigJoinsUptoRow : OpenClaim := { program := "ytcnkoiogfhggeaadoor", sum := "4765e8f2a3c55bad072175e23e211e9925178d861c0aa49d7aebaf3f6f0fb51c", func := "carousel/carousellaw02.SigJoins", spec := "sigJoins", named := ["math/bits.deBruijn64tab"], plainKeys := false, apart := false, laid := [("math/bits.deBruijn64tab", laid_math_bits_deBruijn64tab)], narrowed := true }
def SigJoinsUptoSaid : Prop := sigJoinsUptoRow.holds Tryd.pinned (OpenSpec.upto sigJoinsSpec)

/-- 'carousellaw02.SigGroups', WHERE WHAT IT READS IS OF BULK AT MOST 1048576: true; the input reads as it did. -/
def sigGroupsUptoRow : OpenClaim := { program := "ytcnkoiogfhggeaadoor", sum := "4765e8f2a3c55bad072175e23e211e9925178d861c0aa49d7aebaf3f6f0fb51c", func := "carousel/carousellaw02.SigGroups", spec := "sigGroups", named := ["math/bits.deBruijn64tab"], plainKeys := false, apart := false, laid := [("math/bits.deBruijn64tab", laid_math_bits_deBruijn64tab)], narrowed := true }
def SigGroupsUptoSaid : Prop := sigGroupsUptoRow.holds Tryd.pinned (OpenSpec.upto sigGroupsSpec)

/-- 'carousellaw02.SigCovers', WHERE WHAT IT READS IS OF BULK AT MOST 1048576: true; the input reads as it did. -/
def sigCoversUptoRow : OpenClaim := { program := "ytcnkoiogfhggeaadoor", sum := "4765e8f2a3c55bad072175e23e211e9925178d861c0aa49d7aebaf3f6f0fb51c", func := "carousel/carousellaw02.SigCovers", spec := "sigCovers", named := ["math/bits.deBruijn64tab"], plainKeys := false, apart := false, laid := [("math/bits.deBruijn64tab", laid_math_bits_deBruijn64tab)], narrowed := true }
def SigCoversUptoSaid : Prop := sigCoversUptoRow.holds Tryd.pinned (OpenSpec.upto sigCoversSpec)

/-- 'carousellaw02.SigTexts', WHERE WHAT IT READS IS OF BULK AT MOST 1048576: true; the input reads as it did. -/
def sigTextsUptoRow : OpenClaim := { program := "ytcnkoiogfhggeaadoor", sum := "4765e8f2a3c55bad072175e23e211e9925178d861c0aa49d7aebaf3f6f0fb51c", func := "carousel/carousellaw02.SigTexts", spec := "sigTexts", named := ["math/bits.deBruijn64tab"], plainKeys := false, apart := false, laid := [("math/bits.deBruijn64tab", laid_math_bits_deBruijn64tab)], narrowed := true }
def SigTextsUptoSaid : Prop := sigTextsUptoRow.holds Tryd.pinned (OpenSpec.upto sigTextsSpec)

/-- 'carousellaw02.SigLaws', WHERE WHAT IT READS IS OF BULK AT MOST 1048576: true; the input reads as it did. -/
def sigLawsUptoRow : OpenClaim := { program := "ytcnkoiogfhggeaadoor", sum := "4765e8f2a3c55bad072175e23e211e9925178d861c0aa49d7aebaf3f6f0fb51c", func := "carousel/carousellaw02.SigLaws", spec := "sigLaws", named := ["math/bits.deBruijn64tab"], plainKeys := false, apart := false, laid := [("math/bits.deBruijn64tab", laid_math_bits_deBruijn64tab)], narrowed := true }
def SigLawsUptoSaid : Prop := sigLawsUptoRow.holds Tryd.pinned (OpenSpec.upto sigLawsSpec)

end Rows
end Go.Proofs.YtcnkoiogfhggeaaDoor
