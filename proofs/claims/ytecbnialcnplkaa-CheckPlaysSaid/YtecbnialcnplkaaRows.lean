/-
  No cell of these rows narrows 'for every input' (looked for: loops, veiled, ifaces, maps, wideKeys, modest, calm, conditions, laid).
  DERIVED. THE GIVEN ROWS OF THIS SEAT. 4 by the template 'for every input the law returns true; each argument reads behind the call as it read before'; 0 by the template 'total and deterministic' (their statements: YtecbnialcnplkaaTotals.lean).
  GIVEN WITH THE SEED: the statements are not yours to turn. If you find one false, say at which input.
  Laid BY PROGRAM, IN A SANDBOX (cutbox-rows.mjs): the forced cells as the released guide's own fill.sh prints them over the translation 69d76962953f8dd2… (all of the seat's roots in one cut). By AI agents, Wed Nov 11 2026. No macro, syntax, notation, axiom, sorry.
-/
import Derived.Test.YtecbnialcnplkaaChecked
import GoSem.Claim
import GoSem.ClaimJoined
import GoSem.ClaimMapViews
import Derived.JoinedTies
import Derived.KernelRfl
namespace Go.Proofs.Ytecbnialcnplkaa
/- THE CELL 'sum', in the pinned program and in every row, IS THE sha256 OF THE DUMP (.gsa) THAT YtecbnialcnplkaaProg.lean LOADS. Nothing in Lean hashes anything: it is a label: what it is worth is what the hold of that sum in a sandbox is worth. -/
noncomputable def Try.pinned : Pinned := { name := "ytecbnialcnplkaa", sum := "69d76962953f8dd2552254c04ec6e1516af183f0e99209b46ee40b49a537674e", checked := Try.checked }
namespace Rows
def none {H : Type} : Left H := { results := [], args := [] }

/-- 'carousellaw08.CheckSafe': WHATEVER THE INPUT: true; the input reads as it did. -/
def checkSafeSpec : ChangeSpec := { name := "checkSafe", fn := fun _ => fun
  | [d] => { results := [.lit (.bool true)], args := [d] }
  | _ => none }
def checkSafeRow : OpenClaim := { program := "ytecbnialcnplkaa", sum := "69d76962953f8dd2552254c04ec6e1516af183f0e99209b46ee40b49a537674e", func := "carousel/carousellaw08.CheckSafe", spec := "checkSafe", apart := false }
def CheckSafeSaid : Prop := checkSafeRow.holds Try.pinned (OpenSpec.ofChange checkSafeSpec)

/-- ITS FALSE NEIGHBOUR: 'it returns false'. Refute it at one input. -/
def checkSafeWrong : ChangeSpec := { name := "checkSafe", fn := fun _ => fun
  | [d] => { results := [.lit (.bool false)], args := [d] }
  | _ => none }
def CheckSafeWrongFalsely : Prop := checkSafeRow.holds Try.pinned (OpenSpec.ofChange checkSafeWrong)

/-- 'carousellaw08.CheckElse': WHATEVER THE INPUT: true; the input reads as it did. -/
def checkElseSpec : ChangeSpec := { name := "checkElse", fn := fun _ => fun
  | [d] => { results := [.lit (.bool true)], args := [d] }
  | _ => none }
def checkElseRow : OpenClaim := { program := "ytecbnialcnplkaa", sum := "69d76962953f8dd2552254c04ec6e1516af183f0e99209b46ee40b49a537674e", func := "carousel/carousellaw08.CheckElse", spec := "checkElse", apart := false }
def CheckElseSaid : Prop := checkElseRow.holds Try.pinned (OpenSpec.ofChange checkElseSpec)

/-- ITS FALSE NEIGHBOUR: 'it returns false'. Refute it at one input. -/
def checkElseWrong : ChangeSpec := { name := "checkElse", fn := fun _ => fun
  | [d] => { results := [.lit (.bool false)], args := [d] }
  | _ => none }
def CheckElseWrongFalsely : Prop := checkElseRow.holds Try.pinned (OpenSpec.ofChange checkElseWrong)

/-- 'carousellaw08.CheckPlays': WHATEVER THE INPUT: true; the input reads as it did. -/
def checkPlaysSpec : ChangeSpec := { name := "checkPlays", fn := fun _ => fun
  | [d] => { results := [.lit (.bool true)], args := [d] }
  | _ => none }
def checkPlaysRow : OpenClaim := { program := "ytecbnialcnplkaa", sum := "69d76962953f8dd2552254c04ec6e1516af183f0e99209b46ee40b49a537674e", func := "carousel/carousellaw08.CheckPlays", spec := "checkPlays", apart := false }
def CheckPlaysSaid : Prop := checkPlaysRow.holds Try.pinned (OpenSpec.ofChange checkPlaysSpec)

/-- ITS FALSE NEIGHBOUR: 'it returns false'. Refute it at one input. -/
def checkPlaysWrong : ChangeSpec := { name := "checkPlays", fn := fun _ => fun
  | [d] => { results := [.lit (.bool false)], args := [d] }
  | _ => none }
def CheckPlaysWrongFalsely : Prop := checkPlaysRow.holds Try.pinned (OpenSpec.ofChange checkPlaysWrong)

/-- 'carousellaw08.CheckWhy': WHATEVER THE INPUT: true; the input reads as it did. -/
def checkWhySpec : ChangeSpec := { name := "checkWhy", fn := fun _ => fun
  | [d] => { results := [.lit (.bool true)], args := [d] }
  | _ => none }
def checkWhyRow : OpenClaim := { program := "ytecbnialcnplkaa", sum := "69d76962953f8dd2552254c04ec6e1516af183f0e99209b46ee40b49a537674e", func := "carousel/carousellaw08.CheckWhy", spec := "checkWhy", apart := false }
def CheckWhySaid : Prop := checkWhyRow.holds Try.pinned (OpenSpec.ofChange checkWhySpec)

/-- ITS FALSE NEIGHBOUR: 'it returns false'. Refute it at one input. -/
def checkWhyWrong : ChangeSpec := { name := "checkWhy", fn := fun _ => fun
  | [d] => { results := [.lit (.bool false)], args := [d] }
  | _ => none }
def CheckWhyWrongFalsely : Prop := checkWhyRow.holds Try.pinned (OpenSpec.ofChange checkWhyWrong)

/- THE SECOND FORM. 'bulk': how many values and letters a reading holds, each counted each time it is reached (what is shared counts as often as it is met; a slice's spare places count too). A statement '..UptoSaid' is the law's where the arguments, and the package variables that the reading takes, are together of bulk at most 1048576: NARROWER than '..Said'. Prove '..Said' where nothing that the law and all that it calls make is longer than what came in: it says more and counts as full. Else prove '..UptoSaid'. A law counts once. -/
mutual
def uptoBulk {H : Type} : DataW H → Nat
  | .lit (.string bytes) => bytes.length + 1
  | .lit _ => 1
  | .nil => 1
  | .ptr d => uptoBulk d + 1
  | .slice elems spare => uptoBulkAll elems + uptoBulkAll spare + 1
  | .agg parts => uptoBulkAll parts + 1
  | .iface _ d => uptoBulk d + 1
  | .map entries => uptoBulkEntries entries + 1
  | .held _ => 1
def uptoBulkAll {H : Type} : List (DataW H) → Nat
  | [] => 0
  | d :: r => uptoBulk d + uptoBulkAll r
def uptoBulkEntries {H : Type} : List (Lit × DataW H) → Nat
  | [] => 0
  | x :: r => uptoBulkEntry x + uptoBulkEntries r
def uptoBulkEntry {H : Type} : Lit × DataW H → Nat
  | (.string bytes, d) => bytes.length + uptoBulk d + 1
  | (_, d) => uptoBulk d + 1
 end
def uptoSmall : (H : Type) → List (DataW H) → Bool := fun _ ds => decide (uptoBulkAll ds ≤ 1048576)
def OpenSpec.upto (s : _root_.Go.ChangeSpec) : _root_.Go.OpenSpec := { _root_.Go.OpenSpec.ofChange s with cond := some uptoSmall }

/-- 'carousellaw08.CheckSafe', WHERE WHAT IT READS IS OF BULK AT MOST 1048576: true; the input reads as it did. -/
def checkSafeUptoRow : OpenClaim := { program := "ytecbnialcnplkaa", sum := "69d76962953f8dd2552254c04ec6e1516af183f0e99209b46ee40b49a537674e", func := "carousel/carousellaw08.CheckSafe", spec := "checkSafe", apart := false, narrowed := true }
def CheckSafeUptoSaid : Prop := checkSafeUptoRow.holds Try.pinned (OpenSpec.upto checkSafeSpec)

/-- 'carousellaw08.CheckElse', WHERE WHAT IT READS IS OF BULK AT MOST 1048576: true; the input reads as it did. -/
def checkElseUptoRow : OpenClaim := { program := "ytecbnialcnplkaa", sum := "69d76962953f8dd2552254c04ec6e1516af183f0e99209b46ee40b49a537674e", func := "carousel/carousellaw08.CheckElse", spec := "checkElse", apart := false, narrowed := true }
def CheckElseUptoSaid : Prop := checkElseUptoRow.holds Try.pinned (OpenSpec.upto checkElseSpec)

/-- 'carousellaw08.CheckPlays', WHERE WHAT IT READS IS OF BULK AT MOST 1048576: true; the input reads as it did. -/
def checkPlaysUptoRow : OpenClaim := { program := "ytecbnialcnplkaa", sum := "69d76962953f8dd2552254c04ec6e1516af183f0e99209b46ee40b49a537674e", func := "carousel/carousellaw08.CheckPlays", spec := "checkPlays", apart := false, narrowed := true }
def CheckPlaysUptoSaid : Prop := checkPlaysUptoRow.holds Try.pinned (OpenSpec.upto checkPlaysSpec)

/-- 'carousellaw08.CheckWhy', WHERE WHAT IT READS IS OF BULK AT MOST 1048576: true; the input reads as it did. -/
def checkWhyUptoRow : OpenClaim := { program := "ytecbnialcnplkaa", sum := "69d76962953f8dd2552254c04ec6e1516af183f0e99209b46ee40b49a537674e", func := "carousel/carousellaw08.CheckWhy", spec := "checkWhy", apart := false, narrowed := true }
def CheckWhyUptoSaid : Prop := checkWhyUptoRow.holds Try.pinned (OpenSpec.upto checkWhySpec)

end Rows
end Go.Proofs.Ytecbnialcnplkaa
