/-
  No cell of these rows narrows 'for every input' (looked for: loops, veiled, ifaces, maps, wideKeys, modest, calm, conditions, laid).
  DERIVED. THE GIVEN ROWS OF THIS SEAT. 5 by the template 'for every input the law returns true; each argument reads behind the call as it read before'; 0 by the template 'total and deterministic' (their statements: YtekmdekcncgkfaaTotals.lean).
  GIVEN WITH THE SEED: the statements are not yours to turn. If you find one false, say at which input.
  Laid BY PROGRAM, IN A SANDBOX (cutbox-rows.mjs): the forced cells as the released guide's own fill.sh prints them over the translation f35f3dd14a73ccfc… (all of the seat's roots in one cut). By AI agents, Wed Nov 11 2026. No macro, syntax, notation, axiom, sorry.
-/
import Derived.Test.YtekmdekcncgkfaaChecked
import GoSem.Claim
import GoSem.ClaimJoined
import GoSem.ClaimMapViews
import Derived.JoinedTies
import Derived.KernelRfl
namespace Go.Proofs.Ytekmdekcncgkfaa
/- THE CELL 'sum', in the pinned program and in every row, IS THE sha256 OF THE DUMP (.gsa) THAT YtekmdekcncgkfaaProg.lean LOADS. Nothing in Lean hashes anything: it is a label: what it is worth is what the hold of that sum in a sandbox is worth. -/
noncomputable def Try.pinned : Pinned := { name := "ytekmdekcncgkfaa", sum := "f35f3dd14a73ccfc622d795af1f0eef263f876e5ecb7b428d19ed4034e6015d1", checked := Try.checked }
namespace Rows
def none {H : Type} : Left H := { results := [], args := [] }

/-- 'carousellaw06.TxlogNil': WHATEVER THE INPUT: true; the input reads as it did. -/
def txlogNilSpec : ChangeSpec := { name := "txlogNil", fn := fun _ => fun
  | [d1, d2] => { results := [.lit (.bool true)], args := [d1, d2] }
  | _ => none }
def txlogNilRow : OpenClaim := { program := "ytekmdekcncgkfaa", sum := "f35f3dd14a73ccfc622d795af1f0eef263f876e5ecb7b428d19ed4034e6015d1", func := "carousel/carousellaw06.TxlogNil", spec := "txlogNil", apart := false }
def TxlogNilSaid : Prop := txlogNilRow.holds Try.pinned (OpenSpec.ofChange txlogNilSpec)

/-- ITS FALSE NEIGHBOUR: 'it returns false'. Refute it at one input. -/
def txlogNilWrong : ChangeSpec := { name := "txlogNil", fn := fun _ => fun
  | [d1, d2] => { results := [.lit (.bool false)], args := [d1, d2] }
  | _ => none }
def TxlogNilWrongFalsely : Prop := txlogNilRow.holds Try.pinned (OpenSpec.ofChange txlogNilWrong)

/-- 'carousellaw06.TxlogBig': WHATEVER THE INPUT: true; the input reads as it did. -/
def txlogBigSpec : ChangeSpec := { name := "txlogBig", fn := fun _ => fun
  | [d] => { results := [.lit (.bool true)], args := [d] }
  | _ => none }
def txlogBigRow : OpenClaim := { program := "ytekmdekcncgkfaa", sum := "f35f3dd14a73ccfc622d795af1f0eef263f876e5ecb7b428d19ed4034e6015d1", func := "carousel/carousellaw06.TxlogBig", spec := "txlogBig", apart := false }
def TxlogBigSaid : Prop := txlogBigRow.holds Try.pinned (OpenSpec.ofChange txlogBigSpec)

/-- ITS FALSE NEIGHBOUR: 'it returns false'. Refute it at one input. -/
def txlogBigWrong : ChangeSpec := { name := "txlogBig", fn := fun _ => fun
  | [d] => { results := [.lit (.bool false)], args := [d] }
  | _ => none }
def TxlogBigWrongFalsely : Prop := txlogBigRow.holds Try.pinned (OpenSpec.ofChange txlogBigWrong)

/-- 'carousellaw06.TxlogPlays': WHATEVER THE INPUT: true; the input reads as it did. -/
def txlogPlaysSpec : ChangeSpec := { name := "txlogPlays", fn := fun _ => fun
  | [d1, d2] => { results := [.lit (.bool true)], args := [d1, d2] }
  | _ => none }
def txlogPlaysRow : OpenClaim := { program := "ytekmdekcncgkfaa", sum := "f35f3dd14a73ccfc622d795af1f0eef263f876e5ecb7b428d19ed4034e6015d1", func := "carousel/carousellaw06.TxlogPlays", spec := "txlogPlays", apart := false }
def TxlogPlaysSaid : Prop := txlogPlaysRow.holds Try.pinned (OpenSpec.ofChange txlogPlaysSpec)

/-- ITS FALSE NEIGHBOUR: 'it returns false'. Refute it at one input. -/
def txlogPlaysWrong : ChangeSpec := { name := "txlogPlays", fn := fun _ => fun
  | [d1, d2] => { results := [.lit (.bool false)], args := [d1, d2] }
  | _ => none }
def TxlogPlaysWrongFalsely : Prop := txlogPlaysRow.holds Try.pinned (OpenSpec.ofChange txlogPlaysWrong)

/-- 'carousellaw06.TxlogOwns': WHATEVER THE INPUT: true; the input reads as it did. -/
def txlogOwnsSpec : ChangeSpec := { name := "txlogOwns", fn := fun _ => fun
  | [d1, d2] => { results := [.lit (.bool true)], args := [d1, d2] }
  | _ => none }
def txlogOwnsRow : OpenClaim := { program := "ytekmdekcncgkfaa", sum := "f35f3dd14a73ccfc622d795af1f0eef263f876e5ecb7b428d19ed4034e6015d1", func := "carousel/carousellaw06.TxlogOwns", spec := "txlogOwns", apart := false }
def TxlogOwnsSaid : Prop := txlogOwnsRow.holds Try.pinned (OpenSpec.ofChange txlogOwnsSpec)

/-- ITS FALSE NEIGHBOUR: 'it returns false'. Refute it at one input. -/
def txlogOwnsWrong : ChangeSpec := { name := "txlogOwns", fn := fun _ => fun
  | [d1, d2] => { results := [.lit (.bool false)], args := [d1, d2] }
  | _ => none }
def TxlogOwnsWrongFalsely : Prop := txlogOwnsRow.holds Try.pinned (OpenSpec.ofChange txlogOwnsWrong)

/-- 'carousellaw06.TxlogClears': WHATEVER THE INPUT: true; the input reads as it did. -/
def txlogClearsSpec : ChangeSpec := { name := "txlogClears", fn := fun _ => fun
  | [d1, d2, d3] => { results := [.lit (.bool true)], args := [d1, d2, d3] }
  | _ => none }
def txlogClearsRow : OpenClaim := { program := "ytekmdekcncgkfaa", sum := "f35f3dd14a73ccfc622d795af1f0eef263f876e5ecb7b428d19ed4034e6015d1", func := "carousel/carousellaw06.TxlogClears", spec := "txlogClears", apart := false }
def TxlogClearsSaid : Prop := txlogClearsRow.holds Try.pinned (OpenSpec.ofChange txlogClearsSpec)

/-- ITS FALSE NEIGHBOUR: 'it returns false'. Refute it at one input. -/
def txlogClearsWrong : ChangeSpec := { name := "txlogClears", fn := fun _ => fun
  | [d1, d2, d3] => { results := [.lit (.bool false)], args := [d1, d2, d3] }
  | _ => none }
def TxlogClearsWrongFalsely : Prop := txlogClearsRow.holds Try.pinned (OpenSpec.ofChange txlogClearsWrong)

/- THE SECOND FORM. 'bulk': how many values and letters a reading holds, each counted each time it is reached (what is shared counts as often as it is met; a slice's spare places count too). A statement '..UptoSaid' is the law's where the arguments, and the package variables that the reading takes, are together of bulk at most 1048576: NARROWER than '..Said'. Prove '..Said' where nothing that the law and all that it calls make is longer than what came in: it says more and counts as full. Else prove '..UptoSaid'. A law counts once. -/
mutual
def uptoBulk {H : Type} : DataW H → Nat
  | .lit (.string bytes) => bytes.length + 1
  | .lit _ => 1
  | .nil => 1
  | .ptr d => uptoBulk d + 1
  | .slice elems spare => uptoBulkAll elems + uptoBulkAll spare + 1
  | .agg parts => uptoBulkAll parts + 1
  | .iface _ d => uptoBulk d + 1
  | .map entries => uptoBulkEntries entries + 1
  | .held _ => 1
def uptoBulkAll {H : Type} : List (DataW H) → Nat
  | [] => 0
  | d :: r => uptoBulk d + uptoBulkAll r
def uptoBulkEntries {H : Type} : List (Lit × DataW H) → Nat
  | [] => 0
  | x :: r => uptoBulkEntry x + uptoBulkEntries r
def uptoBulkEntry {H : Type} : Lit × DataW H → Nat
  | (.string bytes, d) => bytes.length + uptoBulk d + 1
  | (_, d) => uptoBulk d + 1
 end
def uptoSmall : (H : Type) → List (DataW H) → Bool := fun _ ds => decide (uptoBulkAll ds ≤ 1048576)
def OpenSpec.upto (s : _root_.Go.ChangeSpec) : _root_.Go.OpenSpec := { _root_.Go.OpenSpec.ofChange s with cond := some uptoSmall }

/-- 'carousellaw06.TxlogNil', WHERE WHAT IT READS IS OF BULK AT MOST 1048576: true; the input reads as it did. -/
def txlogNilUptoRow : OpenClaim := { program := "ytekmdekcncgkfaa", sum := "f35f3dd14a73ccfc622d795af1f0eef263f876e5ecb7b428d19ed4034e6015d1", func := "carousel/carousellaw06.TxlogNil", spec := "txlogNil", apart := false, narrowed := true }
def TxlogNilUptoSaid : Prop := txlogNilUptoRow.holds Try.pinned (OpenSpec.upto txlogNilSpec)

/-- 'carousellaw06.TxlogBig', WHERE WHAT IT READS IS OF BULK AT MOST 1048576: true; the input reads as it did. -/
def txlogBigUptoRow : OpenClaim := { program := "ytekmdekcncgkfaa", sum := "f35f3dd14a73ccfc622d795af1f0eef263f876e5ecb7b428d19ed4034e6015d1", func := "carousel/carousellaw06.TxlogBig", spec := "txlogBig", apart := false, narrowed := true }
def TxlogBigUptoSaid : Prop := txlogBigUptoRow.holds Try.pinned (OpenSpec.upto txlogBigSpec)

/-- 'carousellaw06.TxlogPlays', WHERE WHAT IT READS IS OF BULK AT MOST 1048576: true; the input reads as it did. -/
def txlogPlaysUptoRow : OpenClaim := { program := "ytekmdekcncgkfaa", sum := "f35f3dd14a73ccfc622d795af1f0eef263f876e5ecb7b428d19ed4034e6015d1", func := "carousel/carousellaw06.TxlogPlays", spec := "txlogPlays", apart := false, narrowed := true }
def TxlogPlaysUptoSaid : Prop := txlogPlaysUptoRow.holds Try.pinned (OpenSpec.upto txlogPlaysSpec)

/-- 'carousellaw06.TxlogOwns', WHERE WHAT IT READS IS OF BULK AT MOST 1048576: true; the input reads as it did. -/
def txlogOwnsUptoRow : OpenClaim := { program := "ytekmdekcncgkfaa", sum := "f35f3dd14a73ccfc622d795af1f0eef263f876e5ecb7b428d19ed4034e6015d1", func := "carousel/carousellaw06.TxlogOwns", spec := "txlogOwns", apart := false, narrowed := true }
def TxlogOwnsUptoSaid : Prop := txlogOwnsUptoRow.holds Try.pinned (OpenSpec.upto txlogOwnsSpec)

/-- 'carousellaw06.TxlogClears', WHERE WHAT IT READS IS OF BULK AT MOST 1048576: true; the input reads as it did. -/
def txlogClearsUptoRow : OpenClaim := { program := "ytekmdekcncgkfaa", sum := "f35f3dd14a73ccfc622d795af1f0eef263f876e5ecb7b428d19ed4034e6015d1", func := "carousel/carousellaw06.TxlogClears", spec := "txlogClears", apart := false, narrowed := true }
def TxlogClearsUptoSaid : Prop := txlogClearsUptoRow.holds Try.pinned (OpenSpec.upto txlogClearsSpec)

end Rows
end Go.Proofs.Ytekmdekcncgkfaa
