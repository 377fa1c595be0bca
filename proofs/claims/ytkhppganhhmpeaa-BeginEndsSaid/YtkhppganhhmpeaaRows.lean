/-
  No cell of these rows narrows 'for every input' (looked for: loops, veiled, ifaces, maps, wideKeys, modest, calm, conditions, laid).
  DERIVED. THE GIVEN ROWS OF THIS SEAT. 5 by the template 'for every input the law returns true; each argument reads behind the call as it read before'; 0 by the template 'total and deterministic' (their statements: YtkhppganhhmpeaaTotals.lean).
  GIVEN WITH THE SEED: the statements are not yours to turn. If you find one false, say at which input.
  Laid BY PROGRAM, IN A SANDBOX (cutbox-rows.mjs): the forced cells as the released guide's own fill.sh prints them over the translation f5b0ac4eb64a484f… (all of the seat's roots in one cut). By AI agents, Wed Nov 11 2026. No macro, syntax, notation, axiom, sorry.
-/
import Derived.Test.YtkhppganhhmpeaaChecked
import GoSem.Claim
import GoSem.ClaimJoined
import GoSem.ClaimMapViews
import Derived.JoinedTies
import Derived.KernelRfl
namespace Go.Proofs.Ytkhppganhhmpeaa
/- THE CELL 'sum', in the pinned program and in every row, IS THE sha256 OF THE DUMP (.gsa) THAT YtkhppganhhmpeaaProg.lean LOADS. Nothing in Lean hashes anything: it is a label: what it is worth is what the hold of that sum in a sandbox is worth. -/
noncomputable def Try.pinned : Pinned := { name := "ytkhppganhhmpeaa", sum := "f5b0ac4eb64a484f6116952a0279a78f1f9e5eeccb17bc3b33a44259beb86df7", checked := Try.checked }
namespace Rows
def none {H : Type} : Left H := { results := [], args := [] }

/-- 'carousellaw07.BeginEnds': WHATEVER THE INPUT: true; the input reads as it did. -/
def beginEndsSpec : ChangeSpec := { name := "beginEnds", fn := fun _ => fun
  | [d1, d2] => { results := [.lit (.bool true)], args := [d1, d2] }
  | _ => none }
def beginEndsRow : OpenClaim := { program := "ytkhppganhhmpeaa", sum := "f5b0ac4eb64a484f6116952a0279a78f1f9e5eeccb17bc3b33a44259beb86df7", func := "carousel/carousellaw07.BeginEnds", spec := "beginEnds", apart := false }
def BeginEndsSaid : Prop := beginEndsRow.holds Try.pinned (OpenSpec.ofChange beginEndsSpec)

/-- ITS FALSE NEIGHBOUR: 'it returns false'. Refute it at one input. -/
def beginEndsWrong : ChangeSpec := { name := "beginEnds", fn := fun _ => fun
  | [d1, d2] => { results := [.lit (.bool false)], args := [d1, d2] }
  | _ => none }
def BeginEndsWrongFalsely : Prop := beginEndsRow.holds Try.pinned (OpenSpec.ofChange beginEndsWrong)

/-- 'carousellaw07.BeginSees': WHATEVER THE INPUT: true; the input reads as it did. -/
def beginSeesSpec : ChangeSpec := { name := "beginSees", fn := fun _ => fun
  | [d1, d2] => { results := [.lit (.bool true)], args := [d1, d2] }
  | _ => none }
def beginSeesRow : OpenClaim := { program := "ytkhppganhhmpeaa", sum := "f5b0ac4eb64a484f6116952a0279a78f1f9e5eeccb17bc3b33a44259beb86df7", func := "carousel/carousellaw07.BeginSees", spec := "beginSees", apart := false }
def BeginSeesSaid : Prop := beginSeesRow.holds Try.pinned (OpenSpec.ofChange beginSeesSpec)

/-- ITS FALSE NEIGHBOUR: 'it returns false'. Refute it at one input. -/
def beginSeesWrong : ChangeSpec := { name := "beginSees", fn := fun _ => fun
  | [d1, d2] => { results := [.lit (.bool false)], args := [d1, d2] }
  | _ => none }
def BeginSeesWrongFalsely : Prop := beginSeesRow.holds Try.pinned (OpenSpec.ofChange beginSeesWrong)

/-- 'carousellaw07.BeginPlays': WHATEVER THE INPUT: true; the input reads as it did. -/
def beginPlaysSpec : ChangeSpec := { name := "beginPlays", fn := fun _ => fun
  | [d1, d2, d3] => { results := [.lit (.bool true)], args := [d1, d2, d3] }
  | _ => none }
def beginPlaysRow : OpenClaim := { program := "ytkhppganhhmpeaa", sum := "f5b0ac4eb64a484f6116952a0279a78f1f9e5eeccb17bc3b33a44259beb86df7", func := "carousel/carousellaw07.BeginPlays", spec := "beginPlays", apart := false }
def BeginPlaysSaid : Prop := beginPlaysRow.holds Try.pinned (OpenSpec.ofChange beginPlaysSpec)

/-- ITS FALSE NEIGHBOUR: 'it returns false'. Refute it at one input. -/
def beginPlaysWrong : ChangeSpec := { name := "beginPlays", fn := fun _ => fun
  | [d1, d2, d3] => { results := [.lit (.bool false)], args := [d1, d2, d3] }
  | _ => none }
def BeginPlaysWrongFalsely : Prop := beginPlaysRow.holds Try.pinned (OpenSpec.ofChange beginPlaysWrong)

/-- 'carousellaw04.RingGrows': WHATEVER THE INPUT: true; the input reads as it did. -/
def ringGrowsSpec : ChangeSpec := { name := "ringGrows", fn := fun _ => fun
  | [d1, d2] => { results := [.lit (.bool true)], args := [d1, d2] }
  | _ => none }
def ringGrowsRow : OpenClaim := { program := "ytkhppganhhmpeaa", sum := "f5b0ac4eb64a484f6116952a0279a78f1f9e5eeccb17bc3b33a44259beb86df7", func := "carousel/carousellaw04.RingGrows", spec := "ringGrows", unfollowed := true, recurses := true, apart := false }
def RingGrowsSaid : Prop := ringGrowsRow.holds Try.pinned (OpenSpec.ofChange ringGrowsSpec)

/-- ITS FALSE NEIGHBOUR: 'it returns false'. Refute it at one input. -/
def ringGrowsWrong : ChangeSpec := { name := "ringGrows", fn := fun _ => fun
  | [d1, d2] => { results := [.lit (.bool false)], args := [d1, d2] }
  | _ => none }
def RingGrowsWrongFalsely : Prop := ringGrowsRow.holds Try.pinned (OpenSpec.ofChange ringGrowsWrong)

/-- 'carousellaw04.RingSees': WHATEVER THE INPUT: true; the input reads as it did. -/
def ringSeesSpec : ChangeSpec := { name := "ringSees", fn := fun _ => fun
  | [d1, d2, d3] => { results := [.lit (.bool true)], args := [d1, d2, d3] }
  | _ => none }
def ringSeesRow : OpenClaim := { program := "ytkhppganhhmpeaa", sum := "f5b0ac4eb64a484f6116952a0279a78f1f9e5eeccb17bc3b33a44259beb86df7", func := "carousel/carousellaw04.RingSees", spec := "ringSees", unfollowed := true, recurses := true, apart := false }
def RingSeesSaid : Prop := ringSeesRow.holds Try.pinned (OpenSpec.ofChange ringSeesSpec)

/-- ITS FALSE NEIGHBOUR: 'it returns false'. Refute it at one input. -/
def ringSeesWrong : ChangeSpec := { name := "ringSees", fn := fun _ => fun
  | [d1, d2, d3] => { results := [.lit (.bool false)], args := [d1, d2, d3] }
  | _ => none }
def RingSeesWrongFalsely : Prop := ringSeesRow.holds Try.pinned (OpenSpec.ofChange ringSeesWrong)

/- THE SECOND FORM. 'bulk': how many values and letters a reading holds, each counted each time it is reached (what is shared counts as often as it is met; a slice's spare places count too). A statement '..UptoSaid' is the law's where the arguments, and the package variables that the reading takes, are together of bulk at most 1048576: NARROWER than '..Said'. Prove '..Said' where nothing that the law and all that it calls make is longer than what came in: it says more and counts as full. Else prove '..UptoSaid'. A law counts once. -/
mutual
def uptoBulk {H : Type} : DataW H → Nat
  | .lit (.string bytes) => bytes.length + 1
  | .lit _ => 1
  | .nil => 1
  | .ptr d => uptoBulk d + 1
  | .slice elems spare => uptoBulkAll elems + uptoBulkAll spare + 1
  | .agg parts => uptoBulkAll parts + 1
  | .iface _ d => uptoBulk d + 1
  | .map entries => uptoBulkEntries entries + 1
  | .held _ => 1
def uptoBulkAll {H : Type} : List (DataW H) → Nat
  | [] => 0
  | d :: r => uptoBulk d + uptoBulkAll r
def uptoBulkEntries {H : Type} : List (Lit × DataW H) → Nat
  | [] => 0
  | x :: r => uptoBulkEntry x + uptoBulkEntries r
def uptoBulkEntry {H : Type} : Lit × DataW H → Nat
  | (.string bytes, d) => bytes.length + uptoBulk d + 1
  | (_, d) => uptoBulk d + 1
 end
def uptoSmall : (H : Type) → List (DataW H) → Bool := fun _ ds => decide (uptoBulkAll ds ≤ 1048576)
def OpenSpec.upto (s : _root_.Go.ChangeSpec) : _root_.Go.OpenSpec := { _root_.Go.OpenSpec.ofChange s with cond := some uptoSmall }

/-- 'carousellaw07.BeginEnds', WHERE WHAT IT READS IS OF BULK AT MOST 1048576: true; the input reads as it did. -/
def beginEndsUptoRow : OpenClaim := { program := "ytkhppganhhmpeaa", sum := "f5b0ac4eb64a484f6116952a0279a78f1f9e5eeccb17bc3b33a44259beb86df7", func := "carousel/carousellaw07.BeginEnds", spec := "beginEnds", apart := false, narrowed := true }
def BeginEndsUptoSaid : Prop := beginEndsUptoRow.holds Try.pinned (OpenSpec.upto beginEndsSpec)

/-- 'carousellaw07.BeginSees', WHERE WHAT IT READS IS OF BULK AT MOST 1048576: true; the input reads as it did. -/
def beginSeesUptoRow : OpenClaim := { program := "ytkhppganhhmpeaa", sum := "f5b0ac4eb64a484f6116952a0279a78f1f9e5eeccb17bc3b33a44259beb86df7", func := "carousel/carousellaw07.BeginSees", spec := "beginSees", apart := false, narrowed := true }
def BeginSeesUptoSaid : Prop := beginSeesUptoRow.holds Try.pinned (OpenSpec.upto beginSeesSpec)

/-- 'carousellaw07.BeginPlays', WHERE WHAT IT READS IS OF BULK AT MOST 1048576: true; the input reads as it did. -/
def beginPlaysUptoRow : OpenClaim := { program := "ytkhppganhhmpeaa", sum := "f5b0ac4eb64a484f6116952a0279a78f1f9e5eeccb17bc3b33a44259beb86df7", func := "carousel/carousellaw07.BeginPlays", spec := "beginPlays", apart := false, narrowed := true }
def BeginPlaysUptoSaid : Prop := beginPlaysUptoRow.holds Try.pinned (OpenSpec.upto beginPlaysSpec)

/-- 'carousellaw04.RingGrows', WHERE WHAT IT READS IS OF BULK AT MOST 1048576: true; the input reads as it did. -/
def ringGrowsUptoRow : OpenClaim := { program := "ytkhppganhhmpeaa", sum := "f5b0ac4eb64a484f6116952a0279a78f1f9e5eeccb17bc3b33a44259beb86df7", func := "carousel/carousellaw04.RingGrows", spec := "ringGrows", unfollowed := true, recurses := true, apart := false, narrowed := true }
def RingGrowsUptoSaid : Prop := ringGrowsUptoRow.holds Try.pinned (OpenSpec.upto ringGrowsSpec)

/-- 'carousellaw04.RingSees', WHERE WHAT IT READS IS OF BULK AT MOST 1048576: true; the input reads as it did. -/
def ringSeesUptoRow : OpenClaim := { program := "ytkhppganhhmpeaa", sum := "f5b0ac4eb64a484f6116952a0279a78f1f9e5eeccb17bc3b33a44259beb86df7", func := "carousel/carousellaw04.RingSees", spec := "ringSees", unfollowed := true, recurses := true, apart := false, narrowed := true }
def RingSeesUptoSaid : Prop := ringSeesUptoRow.holds Try.pinned (OpenSpec.upto ringSeesSpec)

end Rows
end Go.Proofs.Ytkhppganhhmpeaa
