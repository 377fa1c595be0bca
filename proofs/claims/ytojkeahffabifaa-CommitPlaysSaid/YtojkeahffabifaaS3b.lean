/- Plain: words that are numbers of the machine. -/
import Derived.Test.YtojkeahffabifaaS1
import Derived.Test.YtojkeahffabifaaS3
namespace Go.Proofs.Ytojkeahffabifaa
open Go.RowKit
/-- All words are numbers of the machine. -/
def OkW (l : List Acc) : Prop := ∀ a b c, I64 (wordOf l a b c)
theorem okW_nil : OkW [] := fun a b c => by rw [wordOf_nil]; unfold wInit; split <;> exact ⟨by omega, by omega⟩
theorem okW_ld {l : List Acc} (h : OkW l) (th k i j v : Int) : OkW (l ++ [ldAcc th k i j v]) := fun a b c => by rw [wordOf_ld]; exact h a b c
theorem okW_st {l : List Acc} (h : OkW l) (th k i j v : Int) (hv : I64 v) : OkW (l ++ [stAcc th k i j v]) := fun a b c => by
  rw [wordOf_st]; unfold upd; split
  · exact hv
  · exact h a b c
end Go.Proofs.Ytojkeahffabifaa
