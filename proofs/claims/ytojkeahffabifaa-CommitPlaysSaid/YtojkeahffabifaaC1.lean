/- Contracts of the functions of layer 1 (shift) and of its reference, straight ones and those with small loops. -/
import Derived.Test.YtojkeahffabifaaProg
import Derived.WalkKit
import Derived.WalkLawsBesides
import Derived.WalkSpells
import Derived.Lib.Hide
import Derived.Test.YtojkeahffabifaaS1
namespace Go.Proofs.Ytojkeahffabifaa
open Go.RowKit
set_option linter.unusedVariables false
theorem ret_i64 {a b : Int} (h : a = b) : Ending.returned (.int .i64 a) = .returned (.int .i64 b) := by rw [h]
theorem ret_u64 {a b : Int} (h : a = b) : Ending.returned (.int .u64 a) = .returned (.int .u64 b) := by rw [h]
theorem ret_bool {a b : Bool} (h : a = b) : Ending.returned (.bool a) = .returned (.bool b) := by rw [h]



set_option maxHeartbeats 400000 in
theorem down_any (x k : Int) (h0 : 0 ≤ x) (h1 : x < 18446744073709551616) (hk0 : 0 ≤ k) (hk1 : k ≤ 64) (w : World) :
    Calls Try.prog 64 #[.int .u64 x, .int .i64 k] w fun e w' => e = .returned (.int .u64 (x / 2 ^ k.toNat)) ∧ w = w' := by
  go_enter Try.func64, Try.ntmps64
  go_wp2
  go_loop [0, 5] (fun u i => ∃ (n : Nat) (a : Int), (n : Int) ≤ k ∧ u = .int .u64 a ∧ i = .int .i64 n ∧ 0 ≤ a ∧ a < 18446744073709551616 ∧ Hid (a = x / 2 ^ n)) (fun _ i => k.toNat - (intOf i).toNat)
  case atStart => exact ⟨0, x, hk0, rfl, rfl, h0, h1, by show _ = _; simp⟩
  case round =>
    obtain ⟨n, a, hn, rfl, rfl, ha, ha1, H⟩ := hrel
    by_cases hlt : (n : Int) < k
    · go_wp2
      go_round
      case rel => exact ⟨n + 1, _, by omega, rfl, by go_num, by omega, by omega, by show _ = _; rw [H.out, pow_half]⟩
      case measure => simp [intOf]; omega
    · go_wp2
      go_ret
      obtain rfl : k = (n : Int) := by omega
      exact ⟨ret_u64 (by simpa using H.out), rfl⟩

set_option maxHeartbeats 400000 in
theorem times_any (x y : Int) (hx0 : 0 ≤ x) (hy0 : 0 ≤ y) (hy1 : y < 18446744073709551616) (w : World) :
    Calls Try.prog 82 #[.int .u64 x, .int .u64 y] w fun e w' => e = .returned (.int .u64 (IntKind.u64.wrap (x * y))) ∧ w = w' := by
  go_enter Try.func82, Try.ntmps82
  go_wp2
  go_loop [0, 1, 5, 6] (fun u v o i => ∃ (n : Nat) (a b c : Int), n ≤ 64 ∧ u = .int .u64 a ∧ v = .int .u64 b ∧ o = .int .u64 c ∧ i = .int .i64 n ∧ 0 ≤ a ∧ 0 ≤ b ∧ b < 18446744073709551616 ∧ Hid (b < 2 ^ (64 - n)) ∧ 0 ≤ c ∧ c < 18446744073709551616 ∧ Hid ((c + a * b) % 18446744073709551616 = IntKind.u64.wrap (x * y))) (fun _ _ _ i => 64 - (intOf i).toNat)
  case atStart => exact ⟨0, x, y, 0, by omega, rfl, rfl, rfl, rfl, hx0, hy0, hy1, by show _ < _; simpa using hy1, by omega, by omega, by show _ = _; rw [u64_wrap]; simp⟩
  case round =>
    obtain ⟨n, a, b, c, hn, rfl, rfl, rfl, rfl, ha, hb, hb1, HB, hc, hc1, H⟩ := hrel
    by_cases hlt : n < 64
    · have hb3 : b / 2 < 2 ^ (64 - (n + 1)) := by
        have e : (2 : Int) ^ (64 - n) = 2 ^ (64 - (n + 1)) * 2 := by rw [← Int.pow_succ]; congr 1; omega
        have hb2 := HB.out
        rw [e] at hb2; omega
      have HB3 := Lib.hid hb3
      clear hb3
      by_cases hodd : b % 2 = 1
      · have ht : (b % 2 == 1) = true := by simp [hodd]
        have HO := Lib.hid hodd
        clear hodd
        go_wp2
        go_round
        case rel => exact ⟨n + 1, _, _, _, by omega, rfl, rfl, rfl, by go_num, (u64_wrap_range _).1, by omega, by omega, HB3, (u64_wrap_range _).1, (u64_wrap_range _).2, times_step_odd _ _ _ _ HO.out H.out⟩
        case measure => simp [intOf]; omega
      · have ht : (b % 2 == 1) = false := by simp; omega
        have HO := Lib.hid (show b % 2 = 0 by omega)
        clear hodd
        go_wp2
        go_round
        case rel => exact ⟨n + 1, _, _, _, by omega, rfl, rfl, rfl, by go_num, (u64_wrap_range _).1, by omega, by omega, HB3, hc, hc1, times_step_even _ _ _ _ HO.out H.out⟩
        case measure => simp [intOf]; omega
    · go_wp2
      go_ret
      obtain rfl : n = 64 := by omega
      have hb0 : b = 0 := by have : b < 1 := by simpa using HB.out
                             omega
      subst hb0
      have h := H.out
      rw [Int.mul_zero, Int.add_zero] at h
      exact ⟨ret_u64 (by rw [← h]; omega), rfl⟩
end Go.Proofs.Ytojkeahffabifaa
