/- Contracts of layer 1, second part: Mix and SigHash by the reference; heads. -/
import Derived.Test.YtcnkoiogfhggeaaDoorC1
import Derived.BigQuiet
import Derived.Deep.QuietTactic
namespace Go.Proofs.YtcnkoiogfhggeaaDoor
open Go.RowKit
set_option linter.unusedVariables false
theorem down_33 (x : Int) (h0 : 0 ≤ x) (h1 : x < 18446744073709551616) (w : World) :
    Calls Tryd.prog 45 #[.int .u64 x, .int .i64 33] w fun e w' => e = .returned (.int .u64 (x / 8589934592)) ∧ w = w' :=
  down_any x 33 h0 h1 (by omega) (by omega) w
theorem down_55 (x : Int) (h0 : 0 ≤ x) (h1 : x < 18446744073709551616) (w : World) :
    Calls Tryd.prog 45 #[.int .u64 x, .int .i64 55] w fun e w' => e = .returned (.int .u64 (x / 36028797018963968)) ∧ w = w' :=
  down_any x 55 h0 h1 (by omega) (by omega) w
theorem refMix_any (x : Int) (h0 : 0 ≤ x) (h1 : x < 18446744073709551616) (w : World) :
    Calls Tryd.prog 44 #[.int .u64 x] w fun e w' => e = .returned (.int .u64 (mixZ x)) ∧ w = w' := by
  have r1 := xsh_range x h0 h1
  have r2 := xsh_range (IntKind.u64.wrap (xsh x * 18397679294719823053)) (u64_wrap_range _).1 (u64_wrap_range _).2
  have q1 := u64_wrap_range (xsh x * 18397679294719823053)
  have q2 := u64_wrap_range (xsh (IntKind.u64.wrap (xsh x * 18397679294719823053)) * 14181476777654086739)
  unfold xsh at r1 r2 q1 q2
  go_enter Tryd.func44, Tryd.ntmps44
  go_wp2_with fail
  refine (down_33 x h0 h1 _).mono ?_; rintro e w' ⟨rfl, rfl⟩
  go_wp2_with fail
  refine (times_any _ _ (by omega) (by omega) (by omega) _).mono ?_; rintro e w' ⟨rfl, rfl⟩
  go_wp2_with fail
  refine (down_33 _ (by omega) (by omega) _).mono ?_; rintro e w' ⟨rfl, rfl⟩
  go_wp2_with fail
  refine (times_any _ _ (by omega) (by omega) (by omega) _).mono ?_; rintro e w' ⟨rfl, rfl⟩
  go_wp2_with fail
  refine (down_33 _ (by omega) (by omega) _).mono ?_; rintro e w' ⟨rfl, rfl⟩
  go_wp2_with fail
  go_ret
  exact ⟨ret_u64 (mixZ_def x).symm, rfl⟩
theorem refSigHash_any (c : Int) (w : World) :
    Calls Tryd.prog 36 #[.int .i64 c] w fun e w' => e = .returned (.int .i64 (sigHashZ c)) ∧ w = w' := by
  have r := mixZ_range (IntKind.u64.wrap c)
  have q := u64_wrap_range c
  go_enter Tryd.func36, Tryd.ntmps36
  go_wp2_with fail
  refine (refMix_any _ (by omega) (by omega) _).mono ?_; rintro e w' ⟨rfl, rfl⟩
  go_wp2_with fail
  refine (down_55 _ (by omega) (by omega) _).mono ?_; rintro e w' ⟨rfl, rfl⟩
  go_wp2_with fail
  go_ret
  exact ⟨ret_i64 (by first | rfl | (unfold sigHashZ wrap64; omega)), rfl⟩
end Go.Proofs.YtcnkoiogfhggeaaDoor
