/- The walks of layer 4's laws on numbers alone: RingSlots, RingHeads. -/
import Derived.Test.YtojnlkbfhodaaaaC4
namespace Go.Proofs.Ytojnlkbfhodaaaa
open Go.RowKit
set_option linter.unusedVariables false
theorem shown4_any (w : World) : Calls Try.prog 13 #[] w fun e w' => e = .returned (.bool true) ∧ w = w' := by
  go_enter Try.func13, Try.ntmps13
  go_wp2
  go_ret
  exact ⟨rfl, rfl⟩
theorem ringSlots_law (x : Int) (wx : (Lit.int .i64 x).wf = true) (s : Int) (ws : (Lit.int .i64 s).wf = true) (w : World) :
    Calls Try.prog 3 #[.int .i64 x, .int .i64 s] w fun e w' => e = .returned (.bool true) ∧ Below w.heap.size w w' := by
  clear wx ws
  go_enter Try.func3, Try.ntmps3
  go_wp2_with fail
  refine (shown4_any _).mono ?_; rintro e w1 ⟨rfl, rfl⟩
  go_wp2_with fail
  refine (slot_any x s _).mono ?_; rintro e w' ⟨rfl, rfl⟩
  go_wp2_with fail
  refine (refSlot_any x s _).mono ?_; rintro e w' ⟨rfl, rfl⟩
  go_wp2_with fail
  go_ret
  exact ⟨ret_bool (by simp), Below.refl _ _⟩
theorem ringHeads_law (h : Int) (wh : (Lit.int .i64 h).wf = true) (x : Int) (wx : (Lit.int .i64 x).wf = true) (s : Int) (ws : (Lit.int .i64 s).wf = true) (w : World) :
    Calls Try.prog 4 #[.int .i64 h, .int .i64 x, .int .i64 s] w fun e w' => e = .returned (.bool true) ∧ Below w.heap.size w w' := by
  have HH := Lib.hid (I64.of_wf wh)
  have HX := Lib.hid (I64.of_wf wx)
  clear wh wx ws
  go_enter Try.func4, Try.ntmps4
  go_wp2_with fail
  refine (shown4_any _).mono ?_; rintro e w1 ⟨rfl, rfl⟩
  go_wp2_with fail
  refine (over_any h x _).mono ?_; rintro e w' ⟨rfl, rfl⟩
  go_wp2_with fail
  refine (refOver_any h x HH.out _).mono ?_; rintro e w' ⟨rfl, rfl⟩
  go_wp2_with fail
  refine (laid_any h x _).mono ?_; rintro e w' ⟨rfl, rfl⟩
  go_wp2_with fail
  refine (refLaid_any h x HH.out _).mono ?_; rintro e w' ⟨rfl, rfl⟩
  go_wp2_with fail
  refine (free_any h x s HX.out _).mono ?_; rintro e w' ⟨rfl, rfl⟩
  go_wp2_with fail
  refine (refFree_any h x s HH.out HX.out _).mono ?_; rintro e w' ⟨rfl, rfl⟩
  go_wp2_with fail
  go_ret
  exact ⟨ret_bool (by simp), Below.refl _ _⟩
end Go.Proofs.Ytojnlkbfhodaaaa
