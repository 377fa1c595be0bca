/- Layer 5: contracts of the library's Len at the numbers that the table asks of it, and of the program's New. -/
import Derived.Test.YtekmdekcncgkfaaC5g
namespace Go.Proofs.Ytekmdekcncgkfaa
open Go.RowKit
set_option linter.unusedVariables false
set_option maxRecDepth 100000 in
theorem len_1 (w : World) : Calls Try.prog 36 #[.int .u64 1] w fun e w' => e = .returned (.int .i64 1) ∧ w = w' := by
  go_enter Try.func36, Try.ntmps36
  go_wp2
  go_ret
  exact ⟨ret_i64 (by decide +kernel), rfl⟩
set_option maxRecDepth 100000 in
theorem len_2 (w : World) : Calls Try.prog 36 #[.int .u64 3] w fun e w' => e = .returned (.int .i64 2) ∧ w = w' := by
  go_enter Try.func36, Try.ntmps36
  go_wp2
  go_ret
  exact ⟨ret_i64 (by decide +kernel), rfl⟩
set_option maxRecDepth 100000 in
theorem len_3 (w : World) : Calls Try.prog 36 #[.int .u64 5] w fun e w' => e = .returned (.int .i64 3) ∧ w = w' := by
  go_enter Try.func36, Try.ntmps36
  go_wp2
  go_ret
  exact ⟨ret_i64 (by decide +kernel), rfl⟩
set_option maxRecDepth 100000 in
theorem len_4 (w : World) : Calls Try.prog 36 #[.int .u64 7] w fun e w' => e = .returned (.int .i64 3) ∧ w = w' := by
  go_enter Try.func36, Try.ntmps36
  go_wp2
  go_ret
  exact ⟨ret_i64 (by decide +kernel), rfl⟩
set_option maxRecDepth 100000 in
theorem len_5 (w : World) : Calls Try.prog 36 #[.int .u64 9] w fun e w' => e = .returned (.int .i64 4) ∧ w = w' := by
  go_enter Try.func36, Try.ntmps36
  go_wp2
  go_ret
  exact ⟨ret_i64 (by decide +kernel), rfl⟩
set_option maxRecDepth 100000 in
theorem len_6 (w : World) : Calls Try.prog 36 #[.int .u64 11] w fun e w' => e = .returned (.int .i64 4) ∧ w = w' := by
  go_enter Try.func36, Try.ntmps36
  go_wp2
  go_ret
  exact ⟨ret_i64 (by decide +kernel), rfl⟩
set_option maxRecDepth 100000 in
theorem len_7 (w : World) : Calls Try.prog 36 #[.int .u64 13] w fun e w' => e = .returned (.int .i64 4) ∧ w = w' := by
  go_enter Try.func36, Try.ntmps36
  go_wp2
  go_ret
  exact ⟨ret_i64 (by decide +kernel), rfl⟩
set_option maxRecDepth 100000 in
theorem len_8 (w : World) : Calls Try.prog 36 #[.int .u64 15] w fun e w' => e = .returned (.int .i64 4) ∧ w = w' := by
  go_enter Try.func36, Try.ntmps36
  go_wp2
  go_ret
  exact ⟨ret_i64 (by decide +kernel), rfl⟩
set_option maxRecDepth 100000 in
theorem len_9 (w : World) : Calls Try.prog 36 #[.int .u64 17] w fun e w' => e = .returned (.int .i64 5) ∧ w = w' := by
  go_enter Try.func36, Try.ntmps36
  go_wp2
  go_ret
  exact ⟨ret_i64 (by decide +kernel), rfl⟩
set_option maxRecDepth 100000 in
theorem len_10 (w : World) : Calls Try.prog 36 #[.int .u64 19] w fun e w' => e = .returned (.int .i64 5) ∧ w = w' := by
  go_enter Try.func36, Try.ntmps36
  go_wp2
  go_ret
  exact ⟨ret_i64 (by decide +kernel), rfl⟩
set_option maxRecDepth 100000 in
theorem len_11 (w : World) : Calls Try.prog 36 #[.int .u64 21] w fun e w' => e = .returned (.int .i64 5) ∧ w = w' := by
  go_enter Try.func36, Try.ntmps36
  go_wp2
  go_ret
  exact ⟨ret_i64 (by decide +kernel), rfl⟩
set_option maxRecDepth 100000 in
theorem len_12 (w : World) : Calls Try.prog 36 #[.int .u64 23] w fun e w' => e = .returned (.int .i64 5) ∧ w = w' := by
  go_enter Try.func36, Try.ntmps36
  go_wp2
  go_ret
  exact ⟨ret_i64 (by decide +kernel), rfl⟩
set_option maxRecDepth 100000 in
theorem len_13 (w : World) : Calls Try.prog 36 #[.int .u64 25] w fun e w' => e = .returned (.int .i64 5) ∧ w = w' := by
  go_enter Try.func36, Try.ntmps36
  go_wp2
  go_ret
  exact ⟨ret_i64 (by decide +kernel), rfl⟩
set_option maxRecDepth 100000 in
theorem len_14 (w : World) : Calls Try.prog 36 #[.int .u64 27] w fun e w' => e = .returned (.int .i64 5) ∧ w = w' := by
  go_enter Try.func36, Try.ntmps36
  go_wp2
  go_ret
  exact ⟨ret_i64 (by decide +kernel), rfl⟩
set_option maxRecDepth 100000 in
theorem len_15 (w : World) : Calls Try.prog 36 #[.int .u64 29] w fun e w' => e = .returned (.int .i64 5) ∧ w = w' := by
  go_enter Try.func36, Try.ntmps36
  go_wp2
  go_ret
  exact ⟨ret_i64 (by decide +kernel), rfl⟩
set_option maxRecDepth 100000 in
theorem len_16 (w : World) : Calls Try.prog 36 #[.int .u64 31] w fun e w' => e = .returned (.int .i64 5) ∧ w = w' := by
  go_enter Try.func36, Try.ntmps36
  go_wp2
  go_ret
  exact ⟨ret_i64 (by decide +kernel), rfl⟩
set_option maxRecDepth 100000 in
theorem len_17 (w : World) : Calls Try.prog 36 #[.int .u64 33] w fun e w' => e = .returned (.int .i64 6) ∧ w = w' := by
  go_enter Try.func36, Try.ntmps36
  go_wp2
  go_ret
  exact ⟨ret_i64 (by decide +kernel), rfl⟩
set_option maxRecDepth 100000 in
theorem len_18 (w : World) : Calls Try.prog 36 #[.int .u64 35] w fun e w' => e = .returned (.int .i64 6) ∧ w = w' := by
  go_enter Try.func36, Try.ntmps36
  go_wp2
  go_ret
  exact ⟨ret_i64 (by decide +kernel), rfl⟩
set_option maxRecDepth 100000 in
theorem len_19 (w : World) : Calls Try.prog 36 #[.int .u64 37] w fun e w' => e = .returned (.int .i64 6) ∧ w = w' := by
  go_enter Try.func36, Try.ntmps36
  go_wp2
  go_ret
  exact ⟨ret_i64 (by decide +kernel), rfl⟩
set_option maxRecDepth 100000 in
theorem len_20 (w : World) : Calls Try.prog 36 #[.int .u64 39] w fun e w' => e = .returned (.int .i64 6) ∧ w = w' := by
  go_enter Try.func36, Try.ntmps36
  go_wp2
  go_ret
  exact ⟨ret_i64 (by decide +kernel), rfl⟩
set_option maxRecDepth 100000 in
theorem len_21 (w : World) : Calls Try.prog 36 #[.int .u64 41] w fun e w' => e = .returned (.int .i64 6) ∧ w = w' := by
  go_enter Try.func36, Try.ntmps36
  go_wp2
  go_ret
  exact ⟨ret_i64 (by decide +kernel), rfl⟩
set_option maxRecDepth 100000 in
theorem len_22 (w : World) : Calls Try.prog 36 #[.int .u64 43] w fun e w' => e = .returned (.int .i64 6) ∧ w = w' := by
  go_enter Try.func36, Try.ntmps36
  go_wp2
  go_ret
  exact ⟨ret_i64 (by decide +kernel), rfl⟩
set_option maxRecDepth 100000 in
theorem len_23 (w : World) : Calls Try.prog 36 #[.int .u64 45] w fun e w' => e = .returned (.int .i64 6) ∧ w = w' := by
  go_enter Try.func36, Try.ntmps36
  go_wp2
  go_ret
  exact ⟨ret_i64 (by decide +kernel), rfl⟩
set_option maxRecDepth 100000 in
theorem len_24 (w : World) : Calls Try.prog 36 #[.int .u64 47] w fun e w' => e = .returned (.int .i64 6) ∧ w = w' := by
  go_enter Try.func36, Try.ntmps36
  go_wp2
  go_ret
  exact ⟨ret_i64 (by decide +kernel), rfl⟩
theorem len_any (m : Nat) (h1 : 1 ≤ m) (h2 : m ≤ 24) (x : Int) (hx : x = 2 * m - 1) (w : World) : Calls Try.prog 36 #[.int .u64 x] w fun e w' => e = .returned (.int .i64 (widT m)) ∧ w = w' := by
  rcases (show m = 1 ∨ m = 2 ∨ m = 3 ∨ m = 4 ∨ m = 5 ∨ m = 6 ∨ m = 7 ∨ m = 8 ∨ m = 9 ∨ m = 10 ∨ m = 11 ∨ m = 12 ∨ m = 13 ∨ m = 14 ∨ m = 15 ∨ m = 16 ∨ m = 17 ∨ m = 18 ∨ m = 19 ∨ m = 20 ∨ m = 21 ∨ m = 22 ∨ m = 23 ∨ m = 24 by omega) with rfl | rfl | rfl | rfl | rfl | rfl | rfl | rfl | rfl | rfl | rfl | rfl | rfl | rfl | rfl | rfl | rfl | rfl | rfl | rfl | rfl | rfl | rfl | rfl
  · obtain rfl : x = 1 := by omega
    exact len_1 w
  · obtain rfl : x = 3 := by omega
    exact len_2 w
  · obtain rfl : x = 5 := by omega
    exact len_3 w
  · obtain rfl : x = 7 := by omega
    exact len_4 w
  · obtain rfl : x = 9 := by omega
    exact len_5 w
  · obtain rfl : x = 11 := by omega
    exact len_6 w
  · obtain rfl : x = 13 := by omega
    exact len_7 w
  · obtain rfl : x = 15 := by omega
    exact len_8 w
  · obtain rfl : x = 17 := by omega
    exact len_9 w
  · obtain rfl : x = 19 := by omega
    exact len_10 w
  · obtain rfl : x = 21 := by omega
    exact len_11 w
  · obtain rfl : x = 23 := by omega
    exact len_12 w
  · obtain rfl : x = 25 := by omega
    exact len_13 w
  · obtain rfl : x = 27 := by omega
    exact len_14 w
  · obtain rfl : x = 29 := by omega
    exact len_15 w
  · obtain rfl : x = 31 := by omega
    exact len_16 w
  · obtain rfl : x = 33 := by omega
    exact len_17 w
  · obtain rfl : x = 35 := by omega
    exact len_18 w
  · obtain rfl : x = 37 := by omega
    exact len_19 w
  · obtain rfl : x = 39 := by omega
    exact len_20 w
  · obtain rfl : x = 41 := by omega
    exact len_21 w
  · obtain rfl : x = 43 := by omega
    exact len_22 w
  · obtain rfl : x = 45 := by omega
    exact len_23 w
  · obtain rfl : x = 47 := by omega
    exact len_24 w
end Go.Proofs.Ytekmdekcncgkfaa
