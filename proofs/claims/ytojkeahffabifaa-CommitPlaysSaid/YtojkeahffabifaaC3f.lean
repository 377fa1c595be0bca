/- Layer 3: the reference's Is, Load, Store. -/
import Derived.Test.YtojkeahffabifaaC3e
namespace Go.Proofs.Ytojkeahffabifaa
open Go.RowKit
set_option linter.unusedVariables false
/-- Is has answered. -/
def IsGot (w : World) (b : Bool) (e : Ending) (w' : World) : Prop := e = .returned (.bool b) ∧ Below w.heap.size w w'
set_option maxHeartbeats 2000000 in
theorem is_any (r ring cells : Nat) (l : List Acc) (k i j : Int) (w : World) (F : Nat → Prop) (h : RMemH r ring cells l w F) : Calls Try.prog 43 #[.pointer (some ⟨r, 0, none⟩), .agg #[.int .i64 k, .int .i64 i, .int .i64 j]] w (IsGot w (decide (isA ring cells k i j))) := by
  obtain ⟨lv, h1, h2, h3, h4⟩ := h
  obtain ⟨la, lc, rfl⟩ := ownAt_form h2
  have hrl := heap_lt h1
  have hb0 : Below w.heap.size w (w.alloc (.cells #[.int .i64 k, .int .i64 i, .int .i64 j] 59)) := (Below.refl _ _).alloc (Nat.le_refl _) _
  have HB := Lib.hid hb0
  obtain ⟨p0, p1, p2, fz⟩ := three_cells ((hb0.block r hrl).trans h1)
  clear h1 h2 h3 h4 hb0
  have HD : Hid (∀ b : Bool, (isA ring cells k i j ↔ b = true) → decide (isA ring cells k i j) = b) := fun b h => by cases b <;> simp [h]
  generalize hbb : decide (isA ring cells k i j) = bb at *
  have HBB := Lib.hid hbb
  clear hbb
  by_cases k1 : k = 1
  · subst k1
    by_cases i0 : i = 0
    · subst i0
      by_cases j0 : j = 0
      · subst j0
        have HE : Hid (bb = true) := HD.out true (by unfold isA; simp)
        go_enter Try.func43, Try.ntmps43
        go_wp2_with fail
        go_ret
        exact ⟨by rw [HE.out]; rfl, HB.out⟩
      · have HE : Hid (bb = false) := HD.out false (by unfold isA; simp [j0])
        have e1 := beq_no j0
        go_enter Try.func43, Try.ntmps43
        go_wp2_with fail
        go_ret
        exact ⟨by rw [HE.out]; rfl, HB.out⟩
    · have HE : Hid (bb = false) := HD.out false (by unfold isA; simp [i0])
      have e1 := beq_no i0
      go_enter Try.func43, Try.ntmps43
      go_wp2_with fail
      go_ret
      exact ⟨by rw [HE.out]; rfl, HB.out⟩
  have e1 := beq_no k1
  by_cases k2 : k = 2
  · subst k2
    by_cases g0 : 0 ≤ i
    · by_cases g1 : i < ring
      · by_cases j0 : j = 0
        · subst j0
          have HE : Hid (bb = true) := HD.out true (by unfold isA; simp [g0, g1])
          go_enter Try.func43, Try.ntmps43
          go_wp2_with fail
          go_quiet (fail)
          go_wp2_with fail
          go_ret
          exact ⟨by rw [HE.out]; rfl, below_drewN HB.out _⟩
        · have HE : Hid (bb = false) := HD.out false (by unfold isA; simp [j0])
          have e2 := beq_no j0
          go_enter Try.func43, Try.ntmps43
          go_wp2_with fail
          go_quiet (fail)
          go_wp2_with fail
          go_ret
          exact ⟨by rw [HE.out]; rfl, below_drewN HB.out _⟩
      · have dd : decide (i < (ring : Int)) = false := by simpa using g1
        have HE : Hid (bb = false) := HD.out false (by unfold isA; simp [g1])
        go_enter Try.func43, Try.ntmps43
        go_wp2_with fail
        go_quiet (fail)
        go_wp2_with fail
        go_ret
        exact ⟨by rw [HE.out]; rfl, below_drewN HB.out _⟩
    · have dd : decide (0 ≤ i) = false := by simpa using g0
      have HE : Hid (bb = false) := HD.out false (by unfold isA; simp [g0])
      go_enter Try.func43, Try.ntmps43
      go_wp2_with fail
      go_quiet (fail)
      go_wp2_with fail
      go_ret
      exact ⟨by rw [HE.out]; rfl, below_drewN HB.out _⟩
  have e2 := beq_no k2
  by_cases k3 : k = 3
  · subst k3
    by_cases g0 : 0 ≤ i
    · by_cases g1 : i < ring
      · by_cases j0 : 0 ≤ j
        · by_cases j1 : j < 8
          · have HE : Hid (bb = true) := HD.out true (by unfold isA; simp [g0, g1, j0, j1])
            go_enter Try.func43, Try.ntmps43
            go_wp2_with fail
            go_quiet (fail)
            go_wp2_with fail
            go_ret
            exact ⟨by rw [HE.out]; rfl, below_drewN HB.out _⟩
          · have dd : decide (j < 8) = false := by simpa using j1
            have HE : Hid (bb = false) := HD.out false (by unfold isA; simp [j1])
            go_enter Try.func43, Try.ntmps43
            go_wp2_with fail
            go_quiet (fail)
            go_wp2_with fail
            go_ret
            exact ⟨by rw [HE.out]; rfl, below_drewN HB.out _⟩
        · have dd : decide (0 ≤ j) = false := by simpa using j0
          have HE : Hid (bb = false) := HD.out false (by unfold isA; simp [j0])
          go_enter Try.func43, Try.ntmps43
          go_wp2_with fail
          go_quiet (fail)
          go_wp2_with fail
          go_ret
          exact ⟨by rw [HE.out]; rfl, below_drewN HB.out _⟩
      · have dd : decide (i < (ring : Int)) = false := by simpa using g1
        have HE : Hid (bb = false) := HD.out false (by unfold isA; simp [g1])
        go_enter Try.func43, Try.ntmps43
        go_wp2_with fail
        go_quiet (fail)
        go_wp2_with fail
        go_ret
        exact ⟨by rw [HE.out]; rfl, below_drewN HB.out _⟩
    · have dd : decide (0 ≤ i) = false := by simpa using g0
      have HE : Hid (bb = false) := HD.out false (by unfold isA; simp [g0])
      go_enter Try.func43, Try.ntmps43
      go_wp2_with fail
      go_quiet (fail)
      go_wp2_with fail
      go_ret
      exact ⟨by rw [HE.out]; rfl, below_drewN HB.out _⟩
  have e3 := beq_no k3
  by_cases k4 : k = 4
  · subst k4
    by_cases g0 : 0 ≤ i
    · by_cases g1 : i < cells
      · by_cases j0 : j = 0
        · subst j0
          have HE : Hid (bb = true) := HD.out true (by unfold isA; simp [g0, g1])
          go_enter Try.func43, Try.ntmps43
          go_wp2_with fail
          go_quiet (fail)
          go_wp2_with fail
          go_ret
          exact ⟨by rw [HE.out]; rfl, below_drewN HB.out _⟩
        · have HE : Hid (bb = false) := HD.out false (by unfold isA; simp [j0])
          have e4 := beq_no j0
          go_enter Try.func43, Try.ntmps43
          go_wp2_with fail
          go_quiet (fail)
          go_wp2_with fail
          go_ret
          exact ⟨by rw [HE.out]; rfl, below_drewN HB.out _⟩
      · have dd : decide (i < (cells : Int)) = false := by simpa using g1
        have HE : Hid (bb = false) := HD.out false (by unfold isA; simp [g1])
        go_enter Try.func43, Try.ntmps43
        go_wp2_with fail
        go_quiet (fail)
        go_wp2_with fail
        go_ret
        exact ⟨by rw [HE.out]; rfl, below_drewN HB.out _⟩
    · have dd : decide (0 ≤ i) = false := by simpa using g0
      have HE : Hid (bb = false) := HD.out false (by unfold isA; simp [g0])
      go_enter Try.func43, Try.ntmps43
      go_wp2_with fail
      go_quiet (fail)
      go_wp2_with fail
      go_ret
      exact ⟨by rw [HE.out]; rfl, below_drewN HB.out _⟩
  have e4 := beq_no k4
  have HE : Hid (bb = false) := HD.out false (by unfold isA; simp [k1, k2, k3, k4])
  go_enter Try.func43, Try.ntmps43
  go_wp2_with fail
  go_ret
  exact ⟨by rw [HE.out]; rfl, HB.out⟩
end Go.Proofs.Ytojkeahffabifaa
