/- Plain: the signatures of lists of cells. -/
import Derived.Test.YtcnkoiogfhggeaaDoorS2f
import Derived.Test.YtcnkoiogfhggeaaDoorC2h
namespace Go.Proofs.YtcnkoiogfhggeaaDoor
open Go.RowKit
set_option linter.unusedVariables false
theorem bitB_fold : ∀ (l : List Int) (s : Nat → Int) (k : Nat), bitB (l.foldl withS s) k = (bitB s k || l.any fun c => decide (k = hashN c))
  | [], s, k => by simp
  | c :: l, s, k => by
    rw [List.foldl_cons, bitB_fold l (withS s c) k, List.any_cons]
    unfold withS
    rw [bitB_putB, Bool.or_assoc]
theorem bitB_ofS (l : List Int) (k : Nat) : bitB (ofS l) k = l.any fun c => decide (k = hashN c) := by
  unfold ofS
  rw [bitB_fold, bitB_noS, Bool.false_or]
theorem ofS_app (xs ys : List Int) : ∀ i, i < 8 → ofS (xs ++ ys) i = orS (ofS xs) (ofS ys) i := by
  refine eq_of_bits (ofS_wds _) (orS_wds (ofS_wds _) (ofS_wds _)) fun k _ => ?_
  rw [bitB_orS (ofS_wds _) (ofS_wds _), bitB_ofS, bitB_ofS, bitB_ofS, List.any_append]
theorem hasS_of {l : List Int} {c : Int} (h : c ∈ l) : hasS (ofS l) c = true := by
  unfold hasS
  rw [bitB_ofS, List.any_eq_true]
  exact ⟨c, h, by simp⟩
theorem hasS_or {s t : Nat → Int} (hs : Wds s) (ht : Wds t) {c : Int} (h : hasS s c = true) : hasS (orS s t) c = true := by
  unfold hasS at h ⊢
  rw [bitB_orS hs ht, h, Bool.true_or]
theorem meets_of {s t : Nat → Int} (hs : Wds s) (ht : Wds t) {c : Int} (h1 : hasS s c = true) (h2 : hasS t c = true) : (!sigEq (andS s t) noS) = true := by
  cases hq : sigEq (andS s t) noS
  · rfl
  · have := (sigEq_no (andS_wds hs ht)).1 hq (hashN c) (hashN_lt c)
    rw [bitB_andS hs ht] at this
    unfold hasS at h1 h2
    rw [h1, h2] at this
    simp at this
theorem hasS_with {s : Nat → Int} (c : Int) : hasS (withS s c) c = true := by
  unfold hasS withS
  rw [bitB_putB]
  simp
end Go.Proofs.YtcnkoiogfhggeaaDoor
