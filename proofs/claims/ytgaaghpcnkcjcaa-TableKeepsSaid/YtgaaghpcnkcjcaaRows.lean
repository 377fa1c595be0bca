/-
  No cell of these rows narrows 'for every input' (looked for: loops, veiled, ifaces, maps, wideKeys, modest, calm, conditions, laid).
  DERIVED. THE GIVEN ROWS OF THIS SEAT. 7 by the template 'for every input the law returns true; each argument reads behind the call as it read before'; 0 by the template 'total and deterministic' (their statements: YtgaaghpcnkcjcaaTotals.lean).
  GIVEN WITH THE SEED: the statements are not yours to turn. If you find one false, say at which input.
  Laid BY PROGRAM, IN A SANDBOX (cutbox-rows.mjs): the forced cells as the released guide's own fill.sh prints them over the translation 9f20090584d9c6f2… (all of the seat's roots in one cut). By AI agents, Wed Nov 11 2026. No macro, syntax, notation, axiom, sorry.
-/
import Derived.Test.YtgaaghpcnkcjcaaChecked
import GoSem.Claim
import GoSem.ClaimJoined
import GoSem.ClaimMapViews
import Derived.JoinedTies
import Derived.KernelRfl
namespace Go.Proofs.Ytgaaghpcnkcjcaa
/- THE CELL 'sum', in the pinned program and in every row, IS THE sha256 OF THE DUMP (.gsa) THAT YtgaaghpcnkcjcaaProg.lean LOADS. Nothing in Lean hashes anything: it is a label: what it is worth is what the hold of that sum in a sandbox is worth. -/
noncomputable def Try.pinned : Pinned := { name := "ytgaaghpcnkcjcaa", sum := "9f20090584d9c6f21c730bf625d508a32a739e9797121f31c46f13cf6dcfc7d3", checked := Try.checked }
namespace Rows
def none {H : Type} : Left H := { results := [], args := [] }

/-- 'carousellaw05.TableNil': WHATEVER THE INPUT: true; the input reads as it did. -/
def tableNilSpec : ChangeSpec := { name := "tableNil", fn := fun _ => fun
  | [d1, d2] => { results := [.lit (.bool true)], args := [d1, d2] }
  | _ => none }
def tableNilRow : OpenClaim := { program := "ytgaaghpcnkcjcaa", sum := "9f20090584d9c6f21c730bf625d508a32a739e9797121f31c46f13cf6dcfc7d3", func := "carousel/carousellaw05.TableNil", spec := "tableNil", apart := false }
def TableNilSaid : Prop := tableNilRow.holds Try.pinned (OpenSpec.ofChange tableNilSpec)

/-- ITS FALSE NEIGHBOUR: 'it returns false'. Refute it at one input. -/
def tableNilWrong : ChangeSpec := { name := "tableNil", fn := fun _ => fun
  | [d1, d2] => { results := [.lit (.bool false)], args := [d1, d2] }
  | _ => none }
def TableNilWrongFalsely : Prop := tableNilRow.holds Try.pinned (OpenSpec.ofChange tableNilWrong)

/-- 'carousellaw05.TableKeeps': WHATEVER THE INPUT: true; the input reads as it did. -/
def tableKeepsSpec : ChangeSpec := { name := "tableKeeps", fn := fun _ => fun
  | [d1, d2, d3] => { results := [.lit (.bool true)], args := [d1, d2, d3] }
  | _ => none }
def tableKeepsRow : OpenClaim := { program := "ytgaaghpcnkcjcaa", sum := "9f20090584d9c6f21c730bf625d508a32a739e9797121f31c46f13cf6dcfc7d3", func := "carousel/carousellaw05.TableKeeps", spec := "tableKeeps", apart := false }
def TableKeepsSaid : Prop := tableKeepsRow.holds Try.pinned (OpenSpec.ofChange tableKeepsSpec)

/-- ITS FALSE NEIGHBOUR: 'it returns false'. Refute it at one input. -/
def tableKeepsWrong : ChangeSpec := { name := "tableKeeps", fn := fun _ => fun
  | [d1, d2, d3] => { results := [.lit (.bool false)], args := [d1, d2, d3] }
  | _ => none }
def TableKeepsWrongFalsely : Prop := tableKeepsRow.holds Try.pinned (OpenSpec.ofChange tableKeepsWrong)

/-- 'carousellaw05.TableWays': WHATEVER THE INPUT: true; the input reads as it did. -/
def tableWaysSpec : ChangeSpec := { name := "tableWays", fn := fun _ => fun
  | [d1, d2] => { results := [.lit (.bool true)], args := [d1, d2] }
  | _ => none }
def tableWaysRow : OpenClaim := { program := "ytgaaghpcnkcjcaa", sum := "9f20090584d9c6f21c730bf625d508a32a739e9797121f31c46f13cf6dcfc7d3", func := "carousel/carousellaw05.TableWays", spec := "tableWays", apart := false }
def TableWaysSaid : Prop := tableWaysRow.holds Try.pinned (OpenSpec.ofChange tableWaysSpec)

/-- ITS FALSE NEIGHBOUR: 'it returns false'. Refute it at one input. -/
def tableWaysWrong : ChangeSpec := { name := "tableWays", fn := fun _ => fun
  | [d1, d2] => { results := [.lit (.bool false)], args := [d1, d2] }
  | _ => none }
def TableWaysWrongFalsely : Prop := tableWaysRow.holds Try.pinned (OpenSpec.ofChange tableWaysWrong)

/-- 'carousellaw05.TableOwns': WHATEVER THE INPUT: true; the input reads as it did. -/
def tableOwnsSpec : ChangeSpec := { name := "tableOwns", fn := fun _ => fun
  | [d1, d2] => { results := [.lit (.bool true)], args := [d1, d2] }
  | _ => none }
def tableOwnsRow : OpenClaim := { program := "ytgaaghpcnkcjcaa", sum := "9f20090584d9c6f21c730bf625d508a32a739e9797121f31c46f13cf6dcfc7d3", func := "carousel/carousellaw05.TableOwns", spec := "tableOwns", apart := false }
def TableOwnsSaid : Prop := tableOwnsRow.holds Try.pinned (OpenSpec.ofChange tableOwnsSpec)

/-- ITS FALSE NEIGHBOUR: 'it returns false'. Refute it at one input. -/
def tableOwnsWrong : ChangeSpec := { name := "tableOwns", fn := fun _ => fun
  | [d1, d2] => { results := [.lit (.bool false)], args := [d1, d2] }
  | _ => none }
def TableOwnsWrongFalsely : Prop := tableOwnsRow.holds Try.pinned (OpenSpec.ofChange tableOwnsWrong)

/-- 'carousellaw05.TablePlays': WHATEVER THE INPUT: true; the input reads as it did. -/
def tablePlaysSpec : ChangeSpec := { name := "tablePlays", fn := fun _ => fun
  | [d1, d2] => { results := [.lit (.bool true)], args := [d1, d2] }
  | _ => none }
def tablePlaysRow : OpenClaim := { program := "ytgaaghpcnkcjcaa", sum := "9f20090584d9c6f21c730bf625d508a32a739e9797121f31c46f13cf6dcfc7d3", func := "carousel/carousellaw05.TablePlays", spec := "tablePlays", apart := false }
def TablePlaysSaid : Prop := tablePlaysRow.holds Try.pinned (OpenSpec.ofChange tablePlaysSpec)

/-- ITS FALSE NEIGHBOUR: 'it returns false'. Refute it at one input. -/
def tablePlaysWrong : ChangeSpec := { name := "tablePlays", fn := fun _ => fun
  | [d1, d2] => { results := [.lit (.bool false)], args := [d1, d2] }
  | _ => none }
def TablePlaysWrongFalsely : Prop := tablePlaysRow.holds Try.pinned (OpenSpec.ofChange tablePlaysWrong)

/-- 'carousellaw05.TableApart': WHATEVER THE INPUT: true; the input reads as it did. -/
def tableApartSpec : ChangeSpec := { name := "tableApart", fn := fun _ => fun
  | [d1, d2, d3] => { results := [.lit (.bool true)], args := [d1, d2, d3] }
  | _ => none }
def tableApartRow : OpenClaim := { program := "ytgaaghpcnkcjcaa", sum := "9f20090584d9c6f21c730bf625d508a32a739e9797121f31c46f13cf6dcfc7d3", func := "carousel/carousellaw05.TableApart", spec := "tableApart", apart := false }
def TableApartSaid : Prop := tableApartRow.holds Try.pinned (OpenSpec.ofChange tableApartSpec)

/-- ITS FALSE NEIGHBOUR: 'it returns false'. Refute it at one input. -/
def tableApartWrong : ChangeSpec := { name := "tableApart", fn := fun _ => fun
  | [d1, d2, d3] => { results := [.lit (.bool false)], args := [d1, d2, d3] }
  | _ => none }
def TableApartWrongFalsely : Prop := tableApartRow.holds Try.pinned (OpenSpec.ofChange tableApartWrong)

/-- 'carousellaw05.TableClears': WHATEVER THE INPUT: true; the input reads as it did. -/
def tableClearsSpec : ChangeSpec := { name := "tableClears", fn := fun _ => fun
  | [d1, d2, d3] => { results := [.lit (.bool true)], args := [d1, d2, d3] }
  | _ => none }
def tableClearsRow : OpenClaim := { program := "ytgaaghpcnkcjcaa", sum := "9f20090584d9c6f21c730bf625d508a32a739e9797121f31c46f13cf6dcfc7d3", func := "carousel/carousellaw05.TableClears", spec := "tableClears", apart := false }
def TableClearsSaid : Prop := tableClearsRow.holds Try.pinned (OpenSpec.ofChange tableClearsSpec)

/-- ITS FALSE NEIGHBOUR: 'it returns false'. Refute it at one input. -/
def tableClearsWrong : ChangeSpec := { name := "tableClears", fn := fun _ => fun
  | [d1, d2, d3] => { results := [.lit (.bool false)], args := [d1, d2, d3] }
  | _ => none }
def TableClearsWrongFalsely : Prop := tableClearsRow.holds Try.pinned (OpenSpec.ofChange tableClearsWrong)

/- THE SECOND FORM. 'bulk': how many values and letters a reading holds, each counted each time it is reached (what is shared counts as often as it is met; a slice's spare places count too). A statement '..UptoSaid' is the law's where the arguments, and the package variables that the reading takes, are together of bulk at most 1048576: NARROWER than '..Said'. Prove '..Said' where nothing that the law and all that it calls make is longer than what came in: it says more and counts as full. Else prove '..UptoSaid'. A law counts once. -/
mutual
def uptoBulk {H : Type} : DataW H → Nat
  | .lit (.string bytes) => bytes.length + 1
  | .lit _ => 1
  | .nil => 1
  | .ptr d => uptoBulk d + 1
  | .slice elems spare => uptoBulkAll elems + uptoBulkAll spare + 1
  | .agg parts => uptoBulkAll parts + 1
  | .iface _ d => uptoBulk d + 1
  | .map entries => uptoBulkEntries entries + 1
  | .held _ => 1
def uptoBulkAll {H : Type} : List (DataW H) → Nat
  | [] => 0
  | d :: r => uptoBulk d + uptoBulkAll r
def uptoBulkEntries {H : Type} : List (Lit × DataW H) → Nat
  | [] => 0
  | x :: r => uptoBulkEntry x + uptoBulkEntries r
def uptoBulkEntry {H : Type} : Lit × DataW H → Nat
  | (.string bytes, d) => bytes.length + uptoBulk d + 1
  | (_, d) => uptoBulk d + 1
 end
def uptoSmall : (H : Type) → List (DataW H) → Bool := fun _ ds => decide (uptoBulkAll ds ≤ 1048576)
def OpenSpec.upto (s : _root_.Go.ChangeSpec) : _root_.Go.OpenSpec := { _root_.Go.OpenSpec.ofChange s with cond := some uptoSmall }

/-- 'carousellaw05.TableNil', WHERE WHAT IT READS IS OF BULK AT MOST 1048576: true; the input reads as it did. -/
def tableNilUptoRow : OpenClaim := { program := "ytgaaghpcnkcjcaa", sum := "9f20090584d9c6f21c730bf625d508a32a739e9797121f31c46f13cf6dcfc7d3", func := "carousel/carousellaw05.TableNil", spec := "tableNil", apart := false, narrowed := true }
def TableNilUptoSaid : Prop := tableNilUptoRow.holds Try.pinned (OpenSpec.upto tableNilSpec)

/-- 'carousellaw05.TableKeeps', WHERE WHAT IT READS IS OF BULK AT MOST 1048576: true; the input reads as it did. -/
def tableKeepsUptoRow : OpenClaim := { program := "ytgaaghpcnkcjcaa", sum := "9f20090584d9c6f21c730bf625d508a32a739e9797121f31c46f13cf6dcfc7d3", func := "carousel/carousellaw05.TableKeeps", spec := "tableKeeps", apart := false, narrowed := true }
def TableKeepsUptoSaid : Prop := tableKeepsUptoRow.holds Try.pinned (OpenSpec.upto tableKeepsSpec)

/-- 'carousellaw05.TableWays', WHERE WHAT IT READS IS OF BULK AT MOST 1048576: true; the input reads as it did. -/
def tableWaysUptoRow : OpenClaim := { program := "ytgaaghpcnkcjcaa", sum := "9f20090584d9c6f21c730bf625d508a32a739e9797121f31c46f13cf6dcfc7d3", func := "carousel/carousellaw05.TableWays", spec := "tableWays", apart := false, narrowed := true }
def TableWaysUptoSaid : Prop := tableWaysUptoRow.holds Try.pinned (OpenSpec.upto tableWaysSpec)

/-- 'carousellaw05.TableOwns', WHERE WHAT IT READS IS OF BULK AT MOST 1048576: true; the input reads as it did. -/
def tableOwnsUptoRow : OpenClaim := { program := "ytgaaghpcnkcjcaa", sum := "9f20090584d9c6f21c730bf625d508a32a739e9797121f31c46f13cf6dcfc7d3", func := "carousel/carousellaw05.TableOwns", spec := "tableOwns", apart := false, narrowed := true }
def TableOwnsUptoSaid : Prop := tableOwnsUptoRow.holds Try.pinned (OpenSpec.upto tableOwnsSpec)

/-- 'carousellaw05.TablePlays', WHERE WHAT IT READS IS OF BULK AT MOST 1048576: true; the input reads as it did. -/
def tablePlaysUptoRow : OpenClaim := { program := "ytgaaghpcnkcjcaa", sum := "9f20090584d9c6f21c730bf625d508a32a739e9797121f31c46f13cf6dcfc7d3", func := "carousel/carousellaw05.TablePlays", spec := "tablePlays", apart := false, narrowed := true }
def TablePlaysUptoSaid : Prop := tablePlaysUptoRow.holds Try.pinned (OpenSpec.upto tablePlaysSpec)

/-- 'carousellaw05.TableApart', WHERE WHAT IT READS IS OF BULK AT MOST 1048576: true; the input reads as it did. -/
def tableApartUptoRow : OpenClaim := { program := "ytgaaghpcnkcjcaa", sum := "9f20090584d9c6f21c730bf625d508a32a739e9797121f31c46f13cf6dcfc7d3", func := "carousel/carousellaw05.TableApart", spec := "tableApart", apart := false, narrowed := true }
def TableApartUptoSaid : Prop := tableApartUptoRow.holds Try.pinned (OpenSpec.upto tableApartSpec)

/-- 'carousellaw05.TableClears', WHERE WHAT IT READS IS OF BULK AT MOST 1048576: true; the input reads as it did. -/
def tableClearsUptoRow : OpenClaim := { program := "ytgaaghpcnkcjcaa", sum := "9f20090584d9c6f21c730bf625d508a32a739e9797121f31c46f13cf6dcfc7d3", func := "carousel/carousellaw05.TableClears", spec := "tableClears", apart := false, narrowed := true }
def TableClearsUptoSaid : Prop := tableClearsUptoRow.holds Try.pinned (OpenSpec.upto tableClearsSpec)

end Rows
end Go.Proofs.Ytgaaghpcnkcjcaa
