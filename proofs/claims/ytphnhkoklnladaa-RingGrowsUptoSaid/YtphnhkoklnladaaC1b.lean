/- Contracts of layer 1, second part: Mix and SigHash by the reference; heads. -/
import Derived.Test.YtphnhkoklnladaaC1
import Derived.BigQuiet
import Derived.Deep.QuietTactic
namespace Go.Proofs.Ytphnhkoklnladaa
open Go.RowKit
set_option linter.unusedVariables false
theorem stamp_any (x : Int) (w : World) :
    Calls Try.prog 32 #[.int .i64 x] w fun e w' => e = .returned (.int .i64 (x / 2)) ∧ w = w' := by
  go_enter Try.func32, Try.ntmps32
  go_wp2
  go_ret
  exact ⟨rfl, rfl⟩
theorem done_any (x : Int) (w : World) :
    Calls Try.prog 33 #[.int .i64 x] w fun e w' => e = .returned (.bool (x % 2 == 1)) ∧ w = w' := by
  go_enter Try.func33, Try.ntmps33
  go_wp2
  go_ret
  exact ⟨ret_bool (by rw [and1_i64]), rfl⟩
theorem refStamp_any (x : Int) (hx : I64 x) (w : World) :
    Calls Try.prog 43 #[.int .i64 x] w fun e w' => e = .returned (.int .i64 (x / 2)) ∧ w = w' := by
  by_cases h : x.tmod 2 < 0
  · have e := Lib.hid (ref_stamp_neg x hx h)
    go_enter Try.func43, Try.ntmps43
    go_wp2
    go_ret
    exact ⟨ret_i64 e.out, rfl⟩
  · have e := Lib.hid (ref_stamp_pos x hx (by omega))
    go_enter Try.func43, Try.ntmps43
    go_wp2
    go_ret
    exact ⟨ret_i64 e.out, rfl⟩
theorem refDone_any (x : Int) (w : World) :
    Calls Try.prog 44 #[.int .i64 x] w fun e w' => e = .returned (.bool (x % 2 == 1)) ∧ w = w' := by
  go_enter Try.func44, Try.ntmps44
  go_wp2
  go_ret
  exact ⟨ret_bool (by rw [tmod2, Bool.eq_iff_iff]; simp only [bne_iff_ne, beq_iff_eq]; split <;> omega), rfl⟩
end Go.Proofs.Ytphnhkoklnladaa
