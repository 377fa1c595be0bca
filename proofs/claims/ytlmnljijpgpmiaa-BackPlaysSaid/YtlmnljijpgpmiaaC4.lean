/- Contracts of layer 4's functions on numbers alone (ring), by the program and by the reference. -/
import Derived.Test.YtlmnljijpgpmiaaC1c
namespace Go.Proofs.Ytlmnljijpgpmiaa
open Go.RowKit
set_option linter.unusedVariables false
theorem may_any (s : Int) (w : World) : Calls Try.prog 62 #[.int .i64 s] w fun e w' => e = .returned (.bool (decide (1 ≤ s ∧ s ≤ 16))) ∧ w = w' := by
  go_enter Try.func62, Try.ntmps62
  go_wp2
  all_goals
    go_ret
    exact ⟨ret_bool (by rw [Bool.eq_iff_iff]; simp; omega), rfl⟩
theorem may_yes (s : Int) (h1 : 1 ≤ s) (h2 : s ≤ 16) (w : World) : Calls Try.prog 62 #[.int .i64 s] w fun e w' => e = .returned (.bool true) ∧ w = w' :=
  (may_any s w).mono fun e w' ⟨h, hw⟩ => ⟨h.trans (ret_bool (by simp; omega)), hw⟩
theorem may_no (s : Int) (h : ¬ (1 ≤ s ∧ s ≤ 16)) (w : World) : Calls Try.prog 62 #[.int .i64 s] w fun e w' => e = .returned (.bool false) ∧ w = w' :=
  (may_any s w).mono fun e w' ⟨h', hw⟩ => ⟨h'.trans (ret_bool (by simp; omega)), hw⟩
theorem slot_any (x s : Int) (w : World) : Calls Try.prog 54 #[.int .i64 x, .int .i64 s] w fun e w' => e = .returned (.int .i64 (slotZ x s)) ∧ w = w' := by
  by_cases hs : 1 ≤ s ∧ s ≤ 16
  · obtain ⟨h1, h2⟩ := hs
    by_cases hneg : x.tmod s < 0
    · have e := Lib.hid (slot_neg x s h1 h2 hneg)
      go_enter Try.func54, Try.ntmps54
      go_wp2
      go_ret
      exact ⟨ret_i64 e.out, rfl⟩
    · have e := Lib.hid (slot_pos x s h1 h2 (by omega))
      go_enter Try.func54, Try.ntmps54
      go_wp2
      go_ret
      exact ⟨ret_i64 e.out, rfl⟩
  · have e := Lib.hid (slot_out x s hs)
    have HS := Lib.hid hs
    clear hs
    go_enter Try.func54, Try.ntmps54
    go_wp2_with (go_at_call 62; refine (may_no s HS.out _).mono ?_; rintro e w' ⟨rfl, rfl⟩)
    go_ret
    exact ⟨ret_i64 e.out.symm, rfl⟩
theorem refSlot_any (x s : Int) (w : World) : Calls Try.prog 35 #[.int .i64 x, .int .i64 s] w fun e w' => e = .returned (.int .i64 (slotZ x s)) ∧ w = w' := by
  by_cases h1 : 1 ≤ s
  · by_cases h2 : s ≤ 16
    · by_cases hneg : x.tmod s < 0
      · have e := Lib.hid (slot_neg x s h1 h2 hneg)
        go_enter Try.func35, Try.ntmps35
        go_wp2
        go_ret
        exact ⟨ret_i64 e.out, rfl⟩
      · have e := Lib.hid (slot_pos x s h1 h2 (by omega))
        go_enter Try.func35, Try.ntmps35
        go_wp2
        go_ret
        exact ⟨ret_i64 e.out, rfl⟩
    · have e := Lib.hid (slot_out x s (by omega))
      go_enter Try.func35, Try.ntmps35
      go_wp2
      go_ret
      exact ⟨ret_i64 e.out.symm, rfl⟩
  · have e := Lib.hid (slot_out x s (by omega))
    go_enter Try.func35, Try.ntmps35
    go_wp2
    go_ret
    exact ⟨ret_i64 e.out.symm, rfl⟩
theorem over_any (h s : Int) (w : World) : Calls Try.prog 63 #[.int .i64 h, .int .i64 s] w fun e w' => e = .returned (.bool (overB h s)) ∧ w = w' := by
  have HA := Lib.hid (and1_i64 h)
  go_enter Try.func63, Try.ntmps63
  go_wp2
  all_goals
    go_ret
    exact ⟨ret_bool (by first | (rw [HA.out]; unfold overB; rw [Bool.eq_iff_iff]; simp; omega) | (unfold overB; rw [Bool.eq_iff_iff]; simp; omega)), rfl⟩
theorem laid_any (h s : Int) (w : World) : Calls Try.prog 66 #[.int .i64 h, .int .i64 s] w fun e w' => e = .returned (.bool (laidB h s)) ∧ w = w' := by
  go_enter Try.func66, Try.ntmps66
  go_wp2
  go_ret
  exact ⟨rfl, rfl⟩
theorem refOver_any (h s : Int) (hh : I64 h) (w : World) : Calls Try.prog 38 #[.int .i64 h, .int .i64 s] w fun e w' => e = .returned (.bool (overB h s)) ∧ w = w' := by
  have HH := Lib.hid hh
  clear hh
  go_enter Try.func38, Try.ntmps38
  go_wp2_with (first | (go_at_call 51; refine (refStamp_any h HH.out _).mono ?_; rintro e w' ⟨rfl, rfl⟩) | (go_at_call 52; refine (refDone_any h _).mono ?_; rintro e w' ⟨rfl, rfl⟩))
  all_goals
    go_ret
    exact ⟨ret_bool (by unfold overB; rw [Bool.eq_iff_iff]; simp; omega), rfl⟩
theorem refLaid_any (h s : Int) (hh : I64 h) (w : World) : Calls Try.prog 39 #[.int .i64 h, .int .i64 s] w fun e w' => e = .returned (.bool (laidB h s)) ∧ w = w' := by
  have HH := Lib.hid hh
  clear hh
  go_enter Try.func39, Try.ntmps39
  go_wp2_with (go_at_call 51; refine (refStamp_any h HH.out _).mono ?_; rintro e w' ⟨rfl, rfl⟩)
  go_ret
  exact ⟨rfl, rfl⟩
end Go.Proofs.Ytlmnljijpgpmiaa
