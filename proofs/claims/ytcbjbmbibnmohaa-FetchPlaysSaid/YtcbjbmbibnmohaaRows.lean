/-
  No cell of these rows narrows 'for every input' (looked for: loops, veiled, ifaces, maps, wideKeys, modest, calm, conditions, laid).
  DERIVED. THE GIVEN ROWS OF THIS SEAT. 3 by the template 'for every input the law returns true; each argument reads behind the call as it read before'; 0 by the template 'total and deterministic' (their statements: YtcbjbmbibnmohaaTotals.lean).
  GIVEN WITH THE SEED: the statements are not yours to turn. If you find one false, say at which input.
  Laid BY PROGRAM, IN A SANDBOX (cutbox-rows.mjs): the forced cells as the released guide's own fill.sh prints them over the translation 5f9b187799123359… (all of the seat's roots in one cut). By AI agents, Wed Nov 11 2026. No macro, syntax, notation, axiom, sorry.
-/
import Derived.Test.YtcbjbmbibnmohaaChecked
import GoSem.Claim
import GoSem.ClaimJoined
import GoSem.ClaimMapViews
import Derived.JoinedTies
import Derived.KernelRfl
namespace Go.Proofs.Ytcbjbmbibnmohaa
/- THE CELL 'sum', in the pinned program and in every row, IS THE sha256 OF THE DUMP (.gsa) THAT YtcbjbmbibnmohaaProg.lean LOADS. Nothing in Lean hashes anything: it is a label: what it is worth is what the hold of that sum in a sandbox is worth. -/
noncomputable def Try.pinned : Pinned := { name := "ytcbjbmbibnmohaa", sum := "5f9b187799123359ad07efd948edcf273f41331bd4ea728814fea09887a2ed48", checked := Try.checked }
namespace Rows
def none {H : Type} : Left H := { results := [], args := [] }

/-- 'carousellaw09.FetchTells': WHATEVER THE INPUT: true; the input reads as it did. -/
def fetchTellsSpec : ChangeSpec := { name := "fetchTells", fn := fun _ => fun
  | [d] => { results := [.lit (.bool true)], args := [d] }
  | _ => none }
def fetchTellsRow : OpenClaim := { program := "ytcbjbmbibnmohaa", sum := "5f9b187799123359ad07efd948edcf273f41331bd4ea728814fea09887a2ed48", func := "carousel/carousellaw09.FetchTells", spec := "fetchTells", apart := false }
def FetchTellsSaid : Prop := fetchTellsRow.holds Try.pinned (OpenSpec.ofChange fetchTellsSpec)

/-- ITS FALSE NEIGHBOUR: 'it returns false'. Refute it at one input. -/
def fetchTellsWrong : ChangeSpec := { name := "fetchTells", fn := fun _ => fun
  | [d] => { results := [.lit (.bool false)], args := [d] }
  | _ => none }
def FetchTellsWrongFalsely : Prop := fetchTellsRow.holds Try.pinned (OpenSpec.ofChange fetchTellsWrong)

/-- 'carousellaw09.FetchEnds': WHATEVER THE INPUT: true; the input reads as it did. -/
def fetchEndsSpec : ChangeSpec := { name := "fetchEnds", fn := fun _ => fun
  | [d] => { results := [.lit (.bool true)], args := [d] }
  | _ => none }
def fetchEndsRow : OpenClaim := { program := "ytcbjbmbibnmohaa", sum := "5f9b187799123359ad07efd948edcf273f41331bd4ea728814fea09887a2ed48", func := "carousel/carousellaw09.FetchEnds", spec := "fetchEnds", apart := false }
def FetchEndsSaid : Prop := fetchEndsRow.holds Try.pinned (OpenSpec.ofChange fetchEndsSpec)

/-- ITS FALSE NEIGHBOUR: 'it returns false'. Refute it at one input. -/
def fetchEndsWrong : ChangeSpec := { name := "fetchEnds", fn := fun _ => fun
  | [d] => { results := [.lit (.bool false)], args := [d] }
  | _ => none }
def FetchEndsWrongFalsely : Prop := fetchEndsRow.holds Try.pinned (OpenSpec.ofChange fetchEndsWrong)

/-- 'carousellaw09.FetchPlays': WHATEVER THE INPUT: true; the input reads as it did. -/
def fetchPlaysSpec : ChangeSpec := { name := "fetchPlays", fn := fun _ => fun
  | [d] => { results := [.lit (.bool true)], args := [d] }
  | _ => none }
def fetchPlaysRow : OpenClaim := { program := "ytcbjbmbibnmohaa", sum := "5f9b187799123359ad07efd948edcf273f41331bd4ea728814fea09887a2ed48", func := "carousel/carousellaw09.FetchPlays", spec := "fetchPlays", apart := false }
def FetchPlaysSaid : Prop := fetchPlaysRow.holds Try.pinned (OpenSpec.ofChange fetchPlaysSpec)

/-- ITS FALSE NEIGHBOUR: 'it returns false'. Refute it at one input. -/
def fetchPlaysWrong : ChangeSpec := { name := "fetchPlays", fn := fun _ => fun
  | [d] => { results := [.lit (.bool false)], args := [d] }
  | _ => none }
def FetchPlaysWrongFalsely : Prop := fetchPlaysRow.holds Try.pinned (OpenSpec.ofChange fetchPlaysWrong)

/- THE SECOND FORM. 'bulk': how many values and letters a reading holds, each counted each time it is reached (what is shared counts as often as it is met; a slice's spare places count too). A statement '..UptoSaid' is the law's where the arguments, and the package variables that the reading takes, are together of bulk at most 1048576: NARROWER than '..Said'. Prove '..Said' where nothing that the law and all that it calls make is longer than what came in: it says more and counts as full. Else prove '..UptoSaid'. A law counts once. -/
mutual
def uptoBulk {H : Type} : DataW H → Nat
  | .lit (.string bytes) => bytes.length + 1
  | .lit _ => 1
  | .nil => 1
  | .ptr d => uptoBulk d + 1
  | .slice elems spare => uptoBulkAll elems + uptoBulkAll spare + 1
  | .agg parts => uptoBulkAll parts + 1
  | .iface _ d => uptoBulk d + 1
  | .map entries => uptoBulkEntries entries + 1
  | .held _ => 1
def uptoBulkAll {H : Type} : List (DataW H) → Nat
  | [] => 0
  | d :: r => uptoBulk d + uptoBulkAll r
def uptoBulkEntries {H : Type} : List (Lit × DataW H) → Nat
  | [] => 0
  | x :: r => uptoBulkEntry x + uptoBulkEntries r
def uptoBulkEntry {H : Type} : Lit × DataW H → Nat
  | (.string bytes, d) => bytes.length + uptoBulk d + 1
  | (_, d) => uptoBulk d + 1
 end
def uptoSmall : (H : Type) → List (DataW H) → Bool := fun _ ds => decide (uptoBulkAll ds ≤ 1048576)
def OpenSpec.upto (s : _root_.Go.ChangeSpec) : _root_.Go.OpenSpec := { _root_.Go.OpenSpec.ofChange s with cond := some uptoSmall }

/-- 'carousellaw09.FetchTells', WHERE WHAT IT READS IS OF BULK AT MOST 1048576: true; the input reads as it did. -/
def fetchTellsUptoRow : OpenClaim := { program := "ytcbjbmbibnmohaa", sum := "5f9b187799123359ad07efd948edcf273f41331bd4ea728814fea09887a2ed48", func := "carousel/carousellaw09.FetchTells", spec := "fetchTells", apart := false, narrowed := true }
def FetchTellsUptoSaid : Prop := fetchTellsUptoRow.holds Try.pinned (OpenSpec.upto fetchTellsSpec)

/-- 'carousellaw09.FetchEnds', WHERE WHAT IT READS IS OF BULK AT MOST 1048576: true; the input reads as it did. -/
def fetchEndsUptoRow : OpenClaim := { program := "ytcbjbmbibnmohaa", sum := "5f9b187799123359ad07efd948edcf273f41331bd4ea728814fea09887a2ed48", func := "carousel/carousellaw09.FetchEnds", spec := "fetchEnds", apart := false, narrowed := true }
def FetchEndsUptoSaid : Prop := fetchEndsUptoRow.holds Try.pinned (OpenSpec.upto fetchEndsSpec)

/-- 'carousellaw09.FetchPlays', WHERE WHAT IT READS IS OF BULK AT MOST 1048576: true; the input reads as it did. -/
def fetchPlaysUptoRow : OpenClaim := { program := "ytcbjbmbibnmohaa", sum := "5f9b187799123359ad07efd948edcf273f41331bd4ea728814fea09887a2ed48", func := "carousel/carousellaw09.FetchPlays", spec := "fetchPlays", apart := false, narrowed := true }
def FetchPlaysUptoSaid : Prop := fetchPlaysUptoRow.holds Try.pinned (OpenSpec.upto fetchPlaysSpec)

end Rows
end Go.Proofs.Ytcbjbmbibnmohaa
