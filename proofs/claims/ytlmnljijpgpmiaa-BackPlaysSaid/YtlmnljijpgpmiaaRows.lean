/-
  No cell of these rows narrows 'for every input' (looked for: loops, veiled, ifaces, maps, wideKeys, modest, calm, conditions, laid).
  DERIVED. THE GIVEN ROWS OF THIS SEAT. 3 by the template 'for every input the law returns true; each argument reads behind the call as it read before'; 0 by the template 'total and deterministic' (their statements: YtlmnljijpgpmiaaTotals.lean).
  GIVEN WITH THE SEED: the statements are not yours to turn. If you find one false, say at which input.
  Laid BY PROGRAM, IN A SANDBOX (cutbox-rows.mjs): the forced cells as the released guide's own fill.sh prints them over the translation 9aecacc04741ddde… (all of the seat's roots in one cut). By AI agents, Wed Nov 11 2026. No macro, syntax, notation, axiom, sorry.
-/
import Derived.Test.YtlmnljijpgpmiaaChecked
import GoSem.Claim
import GoSem.ClaimJoined
import GoSem.ClaimMapViews
import Derived.JoinedTies
import Derived.KernelRfl
namespace Go.Proofs.Ytlmnljijpgpmiaa
/- THE CELL 'sum', in the pinned program and in every row, IS THE sha256 OF THE DUMP (.gsa) THAT YtlmnljijpgpmiaaProg.lean LOADS. Nothing in Lean hashes anything: it is a label: what it is worth is what the hold of that sum in a sandbox is worth. -/
noncomputable def Try.pinned : Pinned := { name := "ytlmnljijpgpmiaa", sum := "9aecacc04741ddde1e59ac49230c31e827dd1d6b79cd4005b07ede78f7e04543", checked := Try.checked }
namespace Rows
def none {H : Type} : Left H := { results := [], args := [] }

/-- 'carousellaw11.BackEnds': WHATEVER THE INPUT: true; the input reads as it did. -/
def backEndsSpec : ChangeSpec := { name := "backEnds", fn := fun _ => fun
  | [d] => { results := [.lit (.bool true)], args := [d] }
  | _ => none }
def backEndsRow : OpenClaim := { program := "ytlmnljijpgpmiaa", sum := "9aecacc04741ddde1e59ac49230c31e827dd1d6b79cd4005b07ede78f7e04543", func := "carousel/carousellaw11.BackEnds", spec := "backEnds", unfollowed := true, recurses := true, apart := false }
def BackEndsSaid : Prop := backEndsRow.holds Try.pinned (OpenSpec.ofChange backEndsSpec)

/-- ITS FALSE NEIGHBOUR: 'it returns false'. Refute it at one input. -/
def backEndsWrong : ChangeSpec := { name := "backEnds", fn := fun _ => fun
  | [d] => { results := [.lit (.bool false)], args := [d] }
  | _ => none }
def BackEndsWrongFalsely : Prop := backEndsRow.holds Try.pinned (OpenSpec.ofChange backEndsWrong)

/-- 'carousellaw11.BackOrder': WHATEVER THE INPUT: true; the input reads as it did. -/
def backOrderSpec : ChangeSpec := { name := "backOrder", fn := fun _ => fun
  | [d] => { results := [.lit (.bool true)], args := [d] }
  | _ => none }
def backOrderRow : OpenClaim := { program := "ytlmnljijpgpmiaa", sum := "9aecacc04741ddde1e59ac49230c31e827dd1d6b79cd4005b07ede78f7e04543", func := "carousel/carousellaw11.BackOrder", spec := "backOrder", unfollowed := true, recurses := true, apart := false }
def BackOrderSaid : Prop := backOrderRow.holds Try.pinned (OpenSpec.ofChange backOrderSpec)

/-- ITS FALSE NEIGHBOUR: 'it returns false'. Refute it at one input. -/
def backOrderWrong : ChangeSpec := { name := "backOrder", fn := fun _ => fun
  | [d] => { results := [.lit (.bool false)], args := [d] }
  | _ => none }
def BackOrderWrongFalsely : Prop := backOrderRow.holds Try.pinned (OpenSpec.ofChange backOrderWrong)

/-- 'carousellaw11.BackPlays': WHATEVER THE INPUT: true; the input reads as it did. -/
def backPlaysSpec : ChangeSpec := { name := "backPlays", fn := fun _ => fun
  | [d] => { results := [.lit (.bool true)], args := [d] }
  | _ => none }
def backPlaysRow : OpenClaim := { program := "ytlmnljijpgpmiaa", sum := "9aecacc04741ddde1e59ac49230c31e827dd1d6b79cd4005b07ede78f7e04543", func := "carousel/carousellaw11.BackPlays", spec := "backPlays", unfollowed := true, recurses := true, apart := false }
def BackPlaysSaid : Prop := backPlaysRow.holds Try.pinned (OpenSpec.ofChange backPlaysSpec)

/-- ITS FALSE NEIGHBOUR: 'it returns false'. Refute it at one input. -/
def backPlaysWrong : ChangeSpec := { name := "backPlays", fn := fun _ => fun
  | [d] => { results := [.lit (.bool false)], args := [d] }
  | _ => none }
def BackPlaysWrongFalsely : Prop := backPlaysRow.holds Try.pinned (OpenSpec.ofChange backPlaysWrong)

/- THE SECOND FORM. 'bulk': how many values and letters a reading holds, each counted each time it is reached (what is shared counts as often as it is met; a slice's spare places count too). A statement '..UptoSaid' is the law's where the arguments, and the package variables that the reading takes, are together of bulk at most 1048576: NARROWER than '..Said'. Prove '..Said' where nothing that the law and all that it calls make is longer than what came in: it says more and counts as full. Else prove '..UptoSaid'. A law counts once. -/
mutual
def uptoBulk {H : Type} : DataW H → Nat
  | .lit (.string bytes) => bytes.length + 1
  | .lit _ => 1
  | .nil => 1
  | .ptr d => uptoBulk d + 1
  | .slice elems spare => uptoBulkAll elems + uptoBulkAll spare + 1
  | .agg parts => uptoBulkAll parts + 1
  | .iface _ d => uptoBulk d + 1
  | .map entries => uptoBulkEntries entries + 1
  | .held _ => 1
def uptoBulkAll {H : Type} : List (DataW H) → Nat
  | [] => 0
  | d :: r => uptoBulk d + uptoBulkAll r
def uptoBulkEntries {H : Type} : List (Lit × DataW H) → Nat
  | [] => 0
  | x :: r => uptoBulkEntry x + uptoBulkEntries r
def uptoBulkEntry {H : Type} : Lit × DataW H → Nat
  | (.string bytes, d) => bytes.length + uptoBulk d + 1
  | (_, d) => uptoBulk d + 1
 end
def uptoSmall : (H : Type) → List (DataW H) → Bool := fun _ ds => decide (uptoBulkAll ds ≤ 1048576)
def OpenSpec.upto (s : _root_.Go.ChangeSpec) : _root_.Go.OpenSpec := { _root_.Go.OpenSpec.ofChange s with cond := some uptoSmall }

/-- 'carousellaw11.BackEnds', WHERE WHAT IT READS IS OF BULK AT MOST 1048576: true; the input reads as it did. -/
def backEndsUptoRow : OpenClaim := { program := "ytlmnljijpgpmiaa", sum := "9aecacc04741ddde1e59ac49230c31e827dd1d6b79cd4005b07ede78f7e04543", func := "carousel/carousellaw11.BackEnds", spec := "backEnds", unfollowed := true, recurses := true, apart := false, narrowed := true }
def BackEndsUptoSaid : Prop := backEndsUptoRow.holds Try.pinned (OpenSpec.upto backEndsSpec)

/-- 'carousellaw11.BackOrder', WHERE WHAT IT READS IS OF BULK AT MOST 1048576: true; the input reads as it did. -/
def backOrderUptoRow : OpenClaim := { program := "ytlmnljijpgpmiaa", sum := "9aecacc04741ddde1e59ac49230c31e827dd1d6b79cd4005b07ede78f7e04543", func := "carousel/carousellaw11.BackOrder", spec := "backOrder", unfollowed := true, recurses := true, apart := false, narrowed := true }
def BackOrderUptoSaid : Prop := backOrderUptoRow.holds Try.pinned (OpenSpec.upto backOrderSpec)

/-- 'carousellaw11.BackPlays', WHERE WHAT IT READS IS OF BULK AT MOST 1048576: true; the input reads as it did. -/
def backPlaysUptoRow : OpenClaim := { program := "ytlmnljijpgpmiaa", sum := "9aecacc04741ddde1e59ac49230c31e827dd1d6b79cd4005b07ede78f7e04543", func := "carousel/carousellaw11.BackPlays", spec := "backPlays", unfollowed := true, recurses := true, apart := false, narrowed := true }
def BackPlaysUptoSaid : Prop := backPlaysUptoRow.holds Try.pinned (OpenSpec.upto backPlaysSpec)

end Rows
end Go.Proofs.Ytlmnljijpgpmiaa
