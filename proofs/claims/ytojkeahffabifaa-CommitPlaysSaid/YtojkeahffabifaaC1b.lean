/- Contracts of layer 1, second part: Mix and SigHash by the reference; heads. -/
import Derived.Test.YtojkeahffabifaaC1
import Derived.BigQuiet
import Derived.Deep.QuietTactic
namespace Go.Proofs.Ytojkeahffabifaa
open Go.RowKit
set_option linter.unusedVariables false
theorem down_33 (x : Int) (h0 : 0 ≤ x) (h1 : x < 18446744073709551616) (w : World) :
    Calls Try.prog 64 #[.int .u64 x, .int .i64 33] w fun e w' => e = .returned (.int .u64 (x / 8589934592)) ∧ w = w' :=
  down_any x 33 h0 h1 (by omega) (by omega) w
theorem down_55 (x : Int) (h0 : 0 ≤ x) (h1 : x < 18446744073709551616) (w : World) :
    Calls Try.prog 64 #[.int .u64 x, .int .i64 55] w fun e w' => e = .returned (.int .u64 (x / 36028797018963968)) ∧ w = w' :=
  down_any x 55 h0 h1 (by omega) (by omega) w
theorem refMix_any (x : Int) (h0 : 0 ≤ x) (h1 : x < 18446744073709551616) (w : World) :
    Calls Try.prog 63 #[.int .u64 x] w fun e w' => e = .returned (.int .u64 (mixZ x)) ∧ w = w' := by
  have r1 := xsh_range x h0 h1
  have r2 := xsh_range (IntKind.u64.wrap (xsh x * 18397679294719823053)) (u64_wrap_range _).1 (u64_wrap_range _).2
  have q1 := u64_wrap_range (xsh x * 18397679294719823053)
  have q2 := u64_wrap_range (xsh (IntKind.u64.wrap (xsh x * 18397679294719823053)) * 14181476777654086739)
  unfold xsh at r1 r2 q1 q2
  go_enter Try.func63, Try.ntmps63
  go_wp2_with fail
  refine (down_33 x h0 h1 _).mono ?_; rintro e w' ⟨rfl, rfl⟩
  go_wp2_with fail
  refine (times_any _ _ (by omega) (by omega) (by omega) _).mono ?_; rintro e w' ⟨rfl, rfl⟩
  go_wp2_with fail
  refine (down_33 _ (by omega) (by omega) _).mono ?_; rintro e w' ⟨rfl, rfl⟩
  go_wp2_with fail
  refine (times_any _ _ (by omega) (by omega) (by omega) _).mono ?_; rintro e w' ⟨rfl, rfl⟩
  go_wp2_with fail
  refine (down_33 _ (by omega) (by omega) _).mono ?_; rintro e w' ⟨rfl, rfl⟩
  go_wp2_with fail
  go_ret
  exact ⟨ret_u64 (mixZ_def x).symm, rfl⟩
theorem refSigHash_any (c : Int) (w : World) :
    Calls Try.prog 47 #[.int .i64 c] w fun e w' => e = .returned (.int .i64 (sigHashZ c)) ∧ w = w' := by
  have r := mixZ_range (IntKind.u64.wrap c)
  have q := u64_wrap_range c
  go_enter Try.func47, Try.ntmps47
  go_wp2_with fail
  refine (refMix_any _ (by omega) (by omega) _).mono ?_; rintro e w' ⟨rfl, rfl⟩
  go_wp2_with fail
  refine (down_55 _ (by omega) (by omega) _).mono ?_; rintro e w' ⟨rfl, rfl⟩
  go_wp2_with fail
  go_ret
  exact ⟨ret_i64 (by first | rfl | (unfold sigHashZ wrap64; omega)), rfl⟩
theorem stamp_any (x : Int) (w : World) :
    Calls Try.prog 66 #[.int .i64 x] w fun e w' => e = .returned (.int .i64 (x / 2)) ∧ w = w' := by
  go_enter Try.func66, Try.ntmps66
  go_wp2
  go_ret
  exact ⟨rfl, rfl⟩
theorem done_any (x : Int) (w : World) :
    Calls Try.prog 67 #[.int .i64 x] w fun e w' => e = .returned (.bool (x % 2 == 1)) ∧ w = w' := by
  go_enter Try.func67, Try.ntmps67
  go_wp2
  go_ret
  exact ⟨ret_bool (by rw [and1_i64]), rfl⟩
theorem refStamp_any (x : Int) (hx : I64 x) (w : World) :
    Calls Try.prog 79 #[.int .i64 x] w fun e w' => e = .returned (.int .i64 (x / 2)) ∧ w = w' := by
  by_cases h : x.tmod 2 < 0
  · have e := Lib.hid (ref_stamp_neg x hx h)
    go_enter Try.func79, Try.ntmps79
    go_wp2
    go_ret
    exact ⟨ret_i64 e.out, rfl⟩
  · have e := Lib.hid (ref_stamp_pos x hx (by omega))
    go_enter Try.func79, Try.ntmps79
    go_wp2
    go_ret
    exact ⟨ret_i64 e.out, rfl⟩
theorem refDone_any (x : Int) (w : World) :
    Calls Try.prog 80 #[.int .i64 x] w fun e w' => e = .returned (.bool (x % 2 == 1)) ∧ w = w' := by
  go_enter Try.func80, Try.ntmps80
  go_wp2
  go_ret
  exact ⟨ret_bool (by rw [tmod2, Bool.eq_iff_iff]; simp only [bne_iff_ne, beq_iff_eq]; split <;> omega), rfl⟩
end Go.Proofs.Ytojkeahffabifaa
