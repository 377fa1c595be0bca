/- Contracts of layer 4's functions on numbers alone (ring), by the program and by the reference. -/
import Derived.Test.YtojkeahffabifaaC1c
namespace Go.Proofs.Ytojkeahffabifaa
open Go.RowKit
set_option linter.unusedVariables false
theorem may_any (s : Int) (w : World) : Calls Try.prog 70 #[.int .i64 s] w fun e w' => e = .returned (.bool (decide (1 ≤ s ∧ s ≤ 16))) ∧ w = w' := by
  go_enter Try.func70, Try.ntmps70
  go_wp2
  all_goals
    go_ret
    exact ⟨ret_bool (by rw [Bool.eq_iff_iff]; simp; omega), rfl⟩
theorem may_yes (s : Int) (h1 : 1 ≤ s) (h2 : s ≤ 16) (w : World) : Calls Try.prog 70 #[.int .i64 s] w fun e w' => e = .returned (.bool true) ∧ w = w' :=
  (may_any s w).mono fun e w' ⟨h, hw⟩ => ⟨h.trans (ret_bool (by simp; omega)), hw⟩
theorem may_no (s : Int) (h : ¬ (1 ≤ s ∧ s ≤ 16)) (w : World) : Calls Try.prog 70 #[.int .i64 s] w fun e w' => e = .returned (.bool false) ∧ w = w' :=
  (may_any s w).mono fun e w' ⟨h', hw⟩ => ⟨h'.trans (ret_bool (by simp; omega)), hw⟩
theorem slot_any (x s : Int) (w : World) : Calls Try.prog 69 #[.int .i64 x, .int .i64 s] w fun e w' => e = .returned (.int .i64 (slotZ x s)) ∧ w = w' := by
  by_cases hs : 1 ≤ s ∧ s ≤ 16
  · obtain ⟨h1, h2⟩ := hs
    by_cases hneg : x.tmod s < 0
    · have e := Lib.hid (slot_neg x s h1 h2 hneg)
      go_enter Try.func69, Try.ntmps69
      go_wp2
      go_ret
      exact ⟨ret_i64 e.out, rfl⟩
    · have e := Lib.hid (slot_pos x s h1 h2 (by omega))
      go_enter Try.func69, Try.ntmps69
      go_wp2
      go_ret
      exact ⟨ret_i64 e.out, rfl⟩
  · have e := Lib.hid (slot_out x s hs)
    have HS := Lib.hid hs
    clear hs
    go_enter Try.func69, Try.ntmps69
    go_wp2_with (go_at_call 70; refine (may_no s HS.out _).mono ?_; rintro e w' ⟨rfl, rfl⟩)
    go_ret
    exact ⟨ret_i64 e.out.symm, rfl⟩
theorem refSlot_any (x s : Int) (w : World) : Calls Try.prog 58 #[.int .i64 x, .int .i64 s] w fun e w' => e = .returned (.int .i64 (slotZ x s)) ∧ w = w' := by
  by_cases h1 : 1 ≤ s
  · by_cases h2 : s ≤ 16
    · by_cases hneg : x.tmod s < 0
      · have e := Lib.hid (slot_neg x s h1 h2 hneg)
        go_enter Try.func58, Try.ntmps58
        go_wp2
        go_ret
        exact ⟨ret_i64 e.out, rfl⟩
      · have e := Lib.hid (slot_pos x s h1 h2 (by omega))
        go_enter Try.func58, Try.ntmps58
        go_wp2
        go_ret
        exact ⟨ret_i64 e.out, rfl⟩
    · have e := Lib.hid (slot_out x s (by omega))
      go_enter Try.func58, Try.ntmps58
      go_wp2
      go_ret
      exact ⟨ret_i64 e.out.symm, rfl⟩
  · have e := Lib.hid (slot_out x s (by omega))
    go_enter Try.func58, Try.ntmps58
    go_wp2
    go_ret
    exact ⟨ret_i64 e.out.symm, rfl⟩
theorem over_any (h s : Int) (w : World) : Calls Try.prog 49 #[.int .i64 h, .int .i64 s] w fun e w' => e = .returned (.bool (overB h s)) ∧ w = w' := by
  have HA := Lib.hid (and1_i64 h)
  go_enter Try.func49, Try.ntmps49
  go_wp2
  all_goals
    go_ret
    exact ⟨ret_bool (by first | (rw [HA.out]; unfold overB; rw [Bool.eq_iff_iff]; simp; omega) | (unfold overB; rw [Bool.eq_iff_iff]; simp; omega)), rfl⟩
theorem refOver_any (h s : Int) (hh : I64 h) (w : World) : Calls Try.prog 61 #[.int .i64 h, .int .i64 s] w fun e w' => e = .returned (.bool (overB h s)) ∧ w = w' := by
  have HH := Lib.hid hh
  clear hh
  go_enter Try.func61, Try.ntmps61
  go_wp2_with (first | (go_at_call 79; refine (refStamp_any h HH.out _).mono ?_; rintro e w' ⟨rfl, rfl⟩) | (go_at_call 80; refine (refDone_any h _).mono ?_; rintro e w' ⟨rfl, rfl⟩))
  all_goals
    go_ret
    exact ⟨ret_bool (by unfold overB; rw [Bool.eq_iff_iff]; simp; omega), rfl⟩
theorem refLaid_any (h s : Int) (hh : I64 h) (w : World) : Calls Try.prog 85 #[.int .i64 h, .int .i64 s] w fun e w' => e = .returned (.bool (laidB h s)) ∧ w = w' := by
  have HH := Lib.hid hh
  clear hh
  go_enter Try.func85, Try.ntmps85
  go_wp2_with (go_at_call 79; refine (refStamp_any h HH.out _).mono ?_; rintro e w' ⟨rfl, rfl⟩)
  go_ret
  exact ⟨rfl, rfl⟩
theorem free_any (h s n : Int) (hs : I64 s) (w : World) : Calls Try.prog 51 #[.int .i64 h, .int .i64 s, .int .i64 n] w fun e w' => e = .returned (.bool (freeB h s n)) ∧ w = w' := by
  unfold I64 at hs
  by_cases hn : 1 ≤ n ∧ n ≤ 16
  · obtain ⟨h1, h2⟩ := hn
    by_cases hlt : s < n
    · go_enter Try.func51, Try.ntmps51
      go_wp2
      go_ret
      exact ⟨ret_bool (by unfold freeB; rw [Bool.eq_iff_iff]; simp; omega), rfl⟩
    · go_enter Try.func51, Try.ntmps51
      go_wp2_with (first | (go_at_call 49; refine (over_any _ _ _).mono ?_; rintro e w' ⟨rfl, rfl⟩) | go_in)
      go_ret
      exact ⟨ret_bool (by unfold freeB overB; rw [Bool.eq_iff_iff]; simp; omega), rfl⟩
  · go_enter Try.func51, Try.ntmps51
    go_wp2
    all_goals (first | omega | skip)
    all_goals
      go_ret
      exact ⟨ret_bool (by unfold freeB; rw [Bool.eq_iff_iff]; simp; omega), rfl⟩
theorem refFree_any (h s n : Int) (hh : I64 h) (hs : I64 s) (w : World) : Calls Try.prog 60 #[.int .i64 h, .int .i64 s, .int .i64 n] w fun e w' => e = .returned (.bool (freeB h s n)) ∧ w = w' := by
  have HH := Lib.hid hh
  clear hh
  unfold I64 at hs
  by_cases h1 : 1 ≤ n
  · by_cases h2 : n ≤ 16
    · by_cases hle : s ≤ n
      · go_enter Try.func60, Try.ntmps60
        go_wp2
        go_ret
        exact ⟨ret_bool (by unfold freeB; rw [Bool.eq_iff_iff]; simp; omega), rfl⟩
      · go_enter Try.func60, Try.ntmps60
        go_wp2_with (go_at_call 61; refine (refOver_any _ _ HH.out _).mono ?_; rintro e w' ⟨rfl, rfl⟩)
        go_ret
        exact ⟨ret_bool (by unfold freeB overB; rw [Bool.eq_iff_iff]; simp; omega), rfl⟩
    · go_enter Try.func60, Try.ntmps60
      go_wp2
      go_ret
      exact ⟨ret_bool (by unfold freeB; rw [Bool.eq_iff_iff]; simp; omega), rfl⟩
  · go_enter Try.func60, Try.ntmps60
    go_wp2
    go_ret
    exact ⟨ret_bool (by unfold freeB; rw [Bool.eq_iff_iff]; simp; omega), rfl⟩
end Go.Proofs.Ytojkeahffabifaa
