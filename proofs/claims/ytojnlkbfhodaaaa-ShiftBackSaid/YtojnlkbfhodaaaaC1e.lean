/- Contracts of layer 1, fifth part: shifts, turns, smaller numbers, by the program and by the reference. -/
import Derived.Test.YtojnlkbfhodaaaaC1d
import Derived.Test.YtojnlkbfhodaaaaS1c
namespace Go.Proofs.Ytojnlkbfhodaaaa
open Go.RowKit
set_option linter.unusedVariables false
theorem shl_any (x n : Int) (w : World) : Calls Try.prog 33 #[.int .i64 x, .int .i64 n] w fun e w' => e = .returned (.int .i64 (shlZ x n)) ∧ w = w' := by
  have h0 : 0 ≤ bits .and .u64 (IntKind.u64.wrap n) 63 := by rw [and63_u64]; omega
  have h1 : bits .and .u64 (IntKind.u64.wrap n) 63 ≤ 63 := by rw [and63_u64]; omega
  go_enter Try.func33, Try.ntmps33
  go_wp2
  go_ret
  exact ⟨ret_i64 (by rw [and63_u64]; rfl), rfl⟩
theorem shr_any (x n : Int) (w : World) : Calls Try.prog 35 #[.int .i64 x, .int .i64 n] w fun e w' => e = .returned (.int .i64 (shrZ x n)) ∧ w = w' := by
  have h0 : 0 ≤ bits .and .u64 (IntKind.u64.wrap n) 63 := by rw [and63_u64]; omega
  have h1 : bits .and .u64 (IntKind.u64.wrap n) 63 ≤ 63 := by rw [and63_u64]; omega
  go_enter Try.func35, Try.ntmps35
  go_wp2
  go_ret
  exact ⟨ret_i64 (by rw [and63_u64]; rfl), rfl⟩
theorem ushr_any (x n : Int) (w : World) : Calls Try.prog 37 #[.int .i64 x, .int .i64 n] w fun e w' => e = .returned (.int .i64 (ushrZ x n)) ∧ w = w' := by
  have h0 : 0 ≤ bits .and .u64 (IntKind.u64.wrap n) 63 := by rw [and63_u64]; omega
  have h1 : bits .and .u64 (IntKind.u64.wrap n) 63 ≤ 63 := by rw [and63_u64]; omega
  go_enter Try.func37, Try.ntmps37
  go_wp2
  go_ret
  exact ⟨ret_i64 (by rw [and63_u64]; rfl), rfl⟩
theorem turn_any (x n : Int) (hx0 : 0 ≤ x) (hx1 : x < 18446744073709551616) (w : World) : Calls Try.prog 39 #[.int .u64 x, .int .i64 n] w fun e w' => e = .returned (.int .u64 (turnZ x n)) ∧ w = w' := by
  have h0 : 0 ≤ bits .and .u64 (IntKind.u64.wrap n) 63 := by rw [and63_u64]; omega
  have h1 : bits .and .u64 (IntKind.u64.wrap n) 63 ≤ 63 := by rw [and63_u64]; omega
  go_enter Try.func39, Try.ntmps39
  go_wp2
  go_ret
  exact ⟨ret_u64 (by rw [and63_u64, turn_prog x (n % 64) hx0 hx1 (by omega) (by omega)]; rfl), rfl⟩
set_option maxHeartbeats 400000 in
theorem least_any (x k : Int) (hk0 : 0 ≤ k) (hk1 : k ≤ 32) (w : World) :
    Calls Try.prog 53 #[.int .i64 x, .int .i64 k] w fun e w' => e = .returned (.int .i64 (x % 2 ^ k.toNat)) ∧ w = w' := by
  go_enter Try.func53, Try.ntmps53
  go_wp2
  go_loop [5, 6] (fun u i => ∃ (j : Nat) (m : Int), (j : Int) ≤ k ∧ u = .int .i64 m ∧ i = .int .i64 j ∧ 1 ≤ m ∧ m ≤ 4294967296 ∧ Hid (m = 2 ^ j)) (fun _ i => k.toNat - (intOf i).toNat)
  case atStart => exact ⟨0, 1, hk0, rfl, rfl, by omega, by omega, by show _ = _; simp⟩
  case round =>
    obtain ⟨j, m, hj, rfl, rfl, hm1, hm2, H⟩ := hrel
    by_cases hlt : (j : Int) < k
    · go_wp2
      go_round
      case rel =>
        have h2 : (2 : Int) ^ (j + 1) ≤ 2 ^ 32 := by
          have e := Nat.pow_le_pow_right (n := 2) (by decide) (show j + 1 ≤ 32 by omega)
          rw [← Int.ofNat_le, Int.natCast_pow, Int.natCast_pow] at e
          exact e
        have h3 : m + m = 2 ^ (j + 1) := by rw [H.out, Int.pow_succ]; omega
        exact ⟨j + 1, m + m, by omega, rfl, by go_num, by omega, by rw [h3]; exact h2, h3⟩
      case measure => simp [intOf]; omega
    · obtain rfl : k = (j : Int) := by omega
      have hlo := tmod_lo x m hm1
      by_cases hneg : x.tmod m < 0
      · have e := Lib.hid (tmod_neg x m hm1 hneg)
        go_wp2
        go_ret
        exact ⟨ret_i64 (by rw [e.out, H.out]), rfl⟩
      · have e := Lib.hid (tmod_pos x m hm1 (by omega))
        go_wp2
        go_ret
        exact ⟨ret_i64 (by rw [e.out, H.out]), rfl⟩
theorem least_8 (x : Int) (w : World) : Calls Try.prog 53 #[.int .i64 x, .int .i64 8] w fun e w' => e = .returned (.int .i64 (x % 256)) ∧ w = w' := least_any x 8 (by omega) (by omega) w
theorem least_6 (x : Int) (w : World) : Calls Try.prog 53 #[.int .i64 x, .int .i64 6] w fun e w' => e = .returned (.int .i64 (x % 64)) ∧ w = w' := least_any x 6 (by omega) (by omega) w
theorem least_16 (x : Int) (w : World) : Calls Try.prog 53 #[.int .i64 x, .int .i64 16] w fun e w' => e = .returned (.int .i64 (x % 65536)) ∧ w = w' := least_any x 16 (by omega) (by omega) w
theorem least_32 (x : Int) (w : World) : Calls Try.prog 53 #[.int .i64 x, .int .i64 32] w fun e w' => e = .returned (.int .i64 (x % 4294967296)) ∧ w = w' := least_any x 32 (by omega) (by omega) w
theorem low_any (n : Int) (w : World) : Calls Try.prog 50 #[.int .i64 n] w fun e w' => e = .returned (.int .i64 (n % 64)) ∧ w = w' := by
  go_enter Try.func50, Try.ntmps50
  go_wp2_with (go_at_call 53; refine (least_6 n _).mono ?_; rintro e w' ⟨rfl, rfl⟩)
  go_ret
  exact ⟨ret_i64 rfl, rfl⟩
set_option maxHeartbeats 400000 in
theorem refShl_any (x n : Int) (hx : I64 x) (w : World) : Calls Try.prog 34 #[.int .i64 x, .int .i64 n] w fun e w' => e = .returned (.int .i64 (shlZ x n)) ∧ w = w' := by
  have k0 : 0 ≤ n % 64 := by omega
  have k1 : n % 64 ≤ 63 := by omega
  obtain ⟨k, HK⟩ : ∃ k, Hid (k = n % 64) := ⟨_, rfl⟩
  rw [← HK.out] at k0 k1
  go_enter Try.func34, Try.ntmps34
  go_wp2_with (go_at_call 50; refine (low_any n _).mono ?_; rw [← HK.out]; rintro e w' ⟨rfl, rfl⟩)
  go_loop [0, 6] (fun u i => ∃ (j : Nat) (a : Int), (j : Int) ≤ k ∧ u = .int .i64 a ∧ i = .int .i64 j ∧ Hid (a = wrap64 (x * 2 ^ j))) (fun _ i => k.toNat - (intOf i).toNat)
  case atStart => exact ⟨0, x, k0, rfl, rfl, by show _ = _; rw [Int.pow_zero, Int.mul_one, hx.wrap]⟩
  case round =>
    obtain ⟨j, a, hj, rfl, rfl, H⟩ := hrel
    by_cases hlt : (j : Int) < k
    · go_wp2
      go_round
      case rel => exact ⟨j + 1, _, by omega, rfl, by go_num, by show _ = _; rw [H.out, shl_step]⟩
      case measure => simp [intOf]; omega
    · obtain rfl : k = (j : Int) := by omega
      go_wp2
      go_ret
      exact ⟨ret_i64 (by rw [H.out, shlZ, ← HK.out, Int.toNat_natCast]), rfl⟩
set_option maxHeartbeats 400000 in
theorem refShr_any (x n : Int) (hx : I64 x) (w : World) : Calls Try.prog 36 #[.int .i64 x, .int .i64 n] w fun e w' => e = .returned (.int .i64 (shrZ x n)) ∧ w = w' := by
  have k0 : 0 ≤ n % 64 := by omega
  have k1 : n % 64 ≤ 63 := by omega
  obtain ⟨k, HK⟩ : ∃ k, Hid (k = n % 64) := ⟨_, rfl⟩
  rw [← HK.out] at k0 k1
  go_enter Try.func36, Try.ntmps36
  go_wp2_with (go_at_call 50; refine (low_any n _).mono ?_; rw [← HK.out]; rintro e w' ⟨rfl, rfl⟩)
  go_loop [0, 6] (fun u i => ∃ (j : Nat) (a : Int), (j : Int) ≤ k ∧ u = .int .i64 a ∧ i = .int .i64 j ∧ Hid (I64 a) ∧ Hid (a = x / 2 ^ j)) (fun _ i => k.toNat - (intOf i).toNat)
  case atStart => exact ⟨0, x, k0, rfl, rfl, hx, by show _ = _; rw [Int.pow_zero, Int.ediv_one]⟩
  case round =>
    obtain ⟨j, a, hj, rfl, rfl, HI, H⟩ := hrel
    by_cases hlt : (j : Int) < k
    · go_wp2_with (go_at_call 30; refine (refStamp_any a HI.out _).mono ?_; rintro e w' ⟨rfl, rfl⟩)
      go_round
      case rel => exact ⟨j + 1, _, by omega, rfl, by go_num, HI.out.half, by show _ = _; rw [H.out, pow_half]⟩
      case measure => simp [intOf]; omega
    · obtain rfl : k = (j : Int) := by omega
      go_wp2
      go_ret
      exact ⟨ret_i64 (by rw [H.out, shrZ, ← HK.out, Int.toNat_natCast]), rfl⟩
theorem refUshr_any (x n : Int) (w : World) : Calls Try.prog 38 #[.int .i64 x, .int .i64 n] w fun e w' => e = .returned (.int .i64 (ushrZ x n)) ∧ w = w' := by
  have q := u64_wrap_range x
  go_enter Try.func38, Try.ntmps38
  go_wp2_with fail
  refine (low_any n _).mono ?_; rintro e w' ⟨rfl, rfl⟩
  go_wp2_with fail
  refine (down_any _ (n % 64) q.1 q.2 (by omega) (by omega) _).mono ?_; rintro e w' ⟨rfl, rfl⟩
  go_wp2_with fail
  go_ret
  exact ⟨ret_i64 rfl, rfl⟩
set_option maxHeartbeats 400000 in
theorem refTurn_any (x n : Int) (hx0 : 0 ≤ x) (hx1 : x < 18446744073709551616) (w : World) : Calls Try.prog 40 #[.int .u64 x, .int .i64 n] w fun e w' => e = .returned (.int .u64 (turnZ x n)) ∧ w = w' := by
  obtain ⟨b, HB⟩ : ∃ b : Nat, Hid (x = b) := ⟨x.toNat, by show _ = _; omega⟩
  have hb : b < 18446744073709551616 := by have := HB.out; omega
  have main : ∀ k : Int, 0 ≤ k → k ≤ 63 → k = n % 64 → ∀ k0 : Int, Hid (k0 = n.tmod 64) → ((k0 < 0 ∧ Hid (k0 + 64 = k)) ∨ (¬ k0 < 0 ∧ Hid (k0 = k))) → Calls Try.prog 40 #[.int .u64 x, .int .i64 n] w fun e w' => e = .returned (.int .u64 (turnZ x n)) ∧ w = w' := by
    intro k k0 k1 hk kk HKK hcase
    have HK := Lib.hid hk
    clear hk
    have hlo := tmod_lo n 64 (by omega)
    rcases hcase with ⟨hneg, HE⟩ | ⟨hneg, HE⟩
    all_goals
      have e1 := HKK.out
      have e2 := HE.out
      subst e1
      go_enter Try.func40, Try.ntmps40
      go_wp2
      clear e2
      go_loop [0, 6, 7] (fun u i _ => ∃ (j : Nat) (a : Int), (j : Int) ≤ k ∧ u = .int .u64 a ∧ i = .int .i64 j ∧ 0 ≤ a ∧ a < 18446744073709551616 ∧ Hid (a = (turnN b j : Nat))) (fun _ i _ => k.toNat - (intOf i).toNat)
      case atStart => exact ⟨0, x, k0, rfl, rfl, hx0, hx1, by show _ = _; rw [turnN_zero b hb, HB.out]⟩
      case round =>
        obtain ⟨j, a, hj, rfl, rfl, ha0, ha1, H⟩ := hrel
        by_cases hlt : (j : Int) < k
        · go_wp2
          go_round
          case rel =>
            have t := turn_loop b j hb (by omega)
            refine ⟨j + 1, _, by omega, rfl, by go_num, (u64_wrap_range _).1, (u64_wrap_range _).2, ?_⟩
            show _ = _
            rw [H.out, t.1]
          case measure => simp [intOf]; omega
        · obtain rfl : k = (j : Int) := by omega
          go_wp2
          go_ret
          exact ⟨ret_u64 (by rw [H.out, turnZ, ← HK.out, Int.toNat_natCast, HB.out, Int.toNat_natCast]), rfl⟩
  refine main (n % 64) (by omega) (by omega) rfl (n.tmod 64) rfl ?_
  by_cases h : n.tmod 64 < 0
  · exact .inl ⟨h, tmod_neg n 64 (by omega) h⟩
  · exact .inr ⟨h, tmod_pos n 64 (by omega) (by omega)⟩
end Go.Proofs.Ytojnlkbfhodaaaa
