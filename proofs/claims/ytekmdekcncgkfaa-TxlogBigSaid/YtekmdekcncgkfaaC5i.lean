/- Layer 5: contract of the program's New. -/
import Derived.Test.YtekmdekcncgkfaaC5h
namespace Go.Proofs.Ytekmdekcncgkfaa
open Go.RowKit
set_option linter.unusedVariables false
/-- The program's New has answered. -/
def TabNew (w : World) (m : Nat) (e : Ending) (w' : World) : Prop :=
  ∃ p F, e = .returned (.tuple #[.pointer (some ⟨p, 0, none⟩), .int .i64 0]) ∧ TabObj w' p (newT m) F ∧ Below w.heap.size w w' ∧ ∀ b, F b → w.heap.size ≤ b
theorem tabNew_bad (m : Int) (h : m < 1 ∨ 24 < m) (w : World) : Calls Try.prog 24 #[.int .i64 m] w fun e w' => e = .returned (.tuple #[.pointer none, .int .i64 1]) ∧ w = w' := by
  rcases h with h | h
  · go_enter Try.func24, Try.ntmps24
    go_wp2_with fail
    go_ret2
    exact ⟨rfl, rfl⟩
  · have h2 : ¬ m < 1 := by omega
    go_enter Try.func24, Try.ntmps24
    go_wp2_with fail
    go_ret2
    exact ⟨rfl, rfl⟩
theorem clr_at (m N : Nat) (by' : Int) (hN : numT m = N) (hb : ((64 - widT m : Nat) : Int) = by') (w w1 : World) (gs : Nat) (sl : List Int) (hz : w.heap.size ≤ w1.heap.size) (hg : w.heap.size ≤ gs)
    (hown : w1.ownsRow 0 3 1 (.slice (some ⟨gs, 0, none⟩) N N) N (sl.map (Value.int .i64))) (hbel : Below w.heap.size w w1) :
    Calls Try.prog 23 #[.pointer (some ⟨w1.heap.size, 0, none⟩)] (w1.alloc (.cells #[.int .i64 m, .slice (some ⟨gs, 0, none⟩) N N, .slice none 0 0, .int .u64 by'] 71)) fun e w2 =>
      e = .returned (.tuple #[]) ∧ ∃ F, TabObj w2 w1.heap.size (newT m) F ∧ Below w.heap.size w w2 ∧ ∀ b, F b → w.heap.size ≤ b := by
  subst hN
  subst hb
  have hn := numT_pos m
  have hlt := (hown.lt gs rfl).2
  refine (clear_any m w1.heap.size (.slice none 0 0) sl (.slice (some ⟨gs, 0, none⟩) (numT m) (numT m)) _ (heapAlloc _ _) ⟨_, _, _, rfl⟩ (hown.alloc _) (by intro e; simp [Value.ownBlock] at e; omega)).mono ?_
  rintro e w2 ⟨he, F, hT, hC, hF⟩
  have hS : ∀ b, (b = w1.heap.size ∨ (Value.slice (some ⟨gs, 0, none⟩) (numT m) (numT m)).ownBlock = some b) → w.heap.size ≤ b := by
    rintro b (e | e)
    · omega
    · simp [Value.ownBlock] at e; omega
  exact ⟨he, F, hT, (hbel.alloc hz _).trans (hC.below hS (by simp; omega)), fun b hb => hS b (hF b hb)⟩
set_option maxHeartbeats 2000000 in
theorem tabNew_any (m : Nat) (h1 : 1 ≤ m) (h2 : m ≤ 24) (w : World) : Calls Try.prog 24 #[.int .i64 m] w (TabNew w m) := by
  obtain ⟨i0, hi, hI0, hI1, hI2⟩ := info_parts infoInt5
  have HL : Hid (∀ (x : Int), x = 2 * m - 1 → ∀ (w : World), Calls Try.prog 36 #[.int .u64 x] w fun e w' => e = .returned (.int .i64 (widT m)) ∧ w = w') := len_any m h1 h2
  have hw := widT_range m
  have hc1 : (1 : Int) ≤ m := by omega
  have hc2 : (m : Int) ≤ 24 := by omega
  rcases (show widT m = 1 ∨ widT m = 2 ∨ widT m = 3 ∨ widT m = 4 ∨ widT m = 5 ∨ widT m = 6 by omega) with h | h | h | h | h | h
  · have hN : numT m = 2 := by unfold numT; rw [h]
    have HN := Lib.hid hN
    have HW := Lib.hid h
    clear h hN hw
    go_enter Try.func24, Try.ntmps24
    go_wp2_with fail
    refine (HL.out _ (by omega) _).mono ?_; rw [HW.out]; rintro e w' ⟨rfl, rfl⟩
    go_wp2_with (at_make; refine wpList_make_full _ rfl (.tmp 19) (.tmp 19) 63 rfl 0 3 i0 (.int .i64 0) 1 Try.underlying63 hi hI0 hI1 .i64 .i64 2 2 2 rfl rfl rfl rfl (by omega) (by unfold maxLen; omega) (Nat.zero_le _) ?_)
    intro w1 hown hgrow
    have hz := hgrow.size
    have HO := Lib.hid hown
    have HB : Hid (Below w.heap.size w w1) := (Chg.grown hgrow).below (fun i e => by simp at e) (Nat.le_refl _)
    clear hown hgrow
    go_wp2_with fail
    refine (clr_at m 2 63 HN.out (by rw [HW.out]; rfl) w w1 w.heap.size (List.replicate 2 0) hz (Nat.le_refl _) (by rw [List.map_replicate, ← toList_madeCells_one]; exact HO.out) HB.out).mono ?_
    rintro e w2 ⟨rfl, F, hT, hB, hF⟩
    have HT : Hid (TabObj w2 w1.heap.size (newT m) F ∧ Below w.heap.size w w2 ∧ ∀ b, F b → w.heap.size ≤ b) := ⟨hT, hB, hF⟩
    clear hT hB hF
    go_wp2_with fail
    go_ret2
    exact ⟨w1.heap.size, F, rfl, HT.out⟩
  · have hN : numT m = 4 := by unfold numT; rw [h]
    have HN := Lib.hid hN
    have HW := Lib.hid h
    clear h hN hw
    go_enter Try.func24, Try.ntmps24
    go_wp2_with fail
    refine (HL.out _ (by omega) _).mono ?_; rw [HW.out]; rintro e w' ⟨rfl, rfl⟩
    go_wp2_with (at_make; refine wpList_make_full _ rfl (.tmp 19) (.tmp 19) 63 rfl 0 3 i0 (.int .i64 0) 1 Try.underlying63 hi hI0 hI1 .i64 .i64 4 4 4 rfl rfl rfl rfl (by omega) (by unfold maxLen; omega) (Nat.zero_le _) ?_)
    intro w1 hown hgrow
    have hz := hgrow.size
    have HO := Lib.hid hown
    have HB : Hid (Below w.heap.size w w1) := (Chg.grown hgrow).below (fun i e => by simp at e) (Nat.le_refl _)
    clear hown hgrow
    go_wp2_with fail
    refine (clr_at m 4 62 HN.out (by rw [HW.out]; rfl) w w1 w.heap.size (List.replicate 4 0) hz (Nat.le_refl _) (by rw [List.map_replicate, ← toList_madeCells_one]; exact HO.out) HB.out).mono ?_
    rintro e w2 ⟨rfl, F, hT, hB, hF⟩
    have HT : Hid (TabObj w2 w1.heap.size (newT m) F ∧ Below w.heap.size w w2 ∧ ∀ b, F b → w.heap.size ≤ b) := ⟨hT, hB, hF⟩
    clear hT hB hF
    go_wp2_with fail
    go_ret2
    exact ⟨w1.heap.size, F, rfl, HT.out⟩
  · have hN : numT m = 8 := by unfold numT; rw [h]
    have HN := Lib.hid hN
    have HW := Lib.hid h
    clear h hN hw
    go_enter Try.func24, Try.ntmps24
    go_wp2_with fail
    refine (HL.out _ (by omega) _).mono ?_; rw [HW.out]; rintro e w' ⟨rfl, rfl⟩
    go_wp2_with (at_make; refine wpList_make_full _ rfl (.tmp 19) (.tmp 19) 63 rfl 0 3 i0 (.int .i64 0) 1 Try.underlying63 hi hI0 hI1 .i64 .i64 8 8 8 rfl rfl rfl rfl (by omega) (by unfold maxLen; omega) (Nat.zero_le _) ?_)
    intro w1 hown hgrow
    have hz := hgrow.size
    have HO := Lib.hid hown
    have HB : Hid (Below w.heap.size w w1) := (Chg.grown hgrow).below (fun i e => by simp at e) (Nat.le_refl _)
    clear hown hgrow
    go_wp2_with fail
    refine (clr_at m 8 61 HN.out (by rw [HW.out]; rfl) w w1 w.heap.size (List.replicate 8 0) hz (Nat.le_refl _) (by rw [List.map_replicate, ← toList_madeCells_one]; exact HO.out) HB.out).mono ?_
    rintro e w2 ⟨rfl, F, hT, hB, hF⟩
    have HT : Hid (TabObj w2 w1.heap.size (newT m) F ∧ Below w.heap.size w w2 ∧ ∀ b, F b → w.heap.size ≤ b) := ⟨hT, hB, hF⟩
    clear hT hB hF
    go_wp2_with fail
    go_ret2
    exact ⟨w1.heap.size, F, rfl, HT.out⟩
  · have hN : numT m = 16 := by unfold numT; rw [h]
    have HN := Lib.hid hN
    have HW := Lib.hid h
    clear h hN hw
    go_enter Try.func24, Try.ntmps24
    go_wp2_with fail
    refine (HL.out _ (by omega) _).mono ?_; rw [HW.out]; rintro e w' ⟨rfl, rfl⟩
    go_wp2_with (at_make; refine wpList_make_full _ rfl (.tmp 19) (.tmp 19) 63 rfl 0 3 i0 (.int .i64 0) 1 Try.underlying63 hi hI0 hI1 .i64 .i64 16 16 16 rfl rfl rfl rfl (by omega) (by unfold maxLen; omega) (Nat.zero_le _) ?_)
    intro w1 hown hgrow
    have hz := hgrow.size
    have HO := Lib.hid hown
    have HB : Hid (Below w.heap.size w w1) := (Chg.grown hgrow).below (fun i e => by simp at e) (Nat.le_refl _)
    clear hown hgrow
    go_wp2_with fail
    refine (clr_at m 16 60 HN.out (by rw [HW.out]; rfl) w w1 w.heap.size (List.replicate 16 0) hz (Nat.le_refl _) (by rw [List.map_replicate, ← toList_madeCells_one]; exact HO.out) HB.out).mono ?_
    rintro e w2 ⟨rfl, F, hT, hB, hF⟩
    have HT : Hid (TabObj w2 w1.heap.size (newT m) F ∧ Below w.heap.size w w2 ∧ ∀ b, F b → w.heap.size ≤ b) := ⟨hT, hB, hF⟩
    clear hT hB hF
    go_wp2_with fail
    go_ret2
    exact ⟨w1.heap.size, F, rfl, HT.out⟩
  · have hN : numT m = 32 := by unfold numT; rw [h]
    have HN := Lib.hid hN
    have HW := Lib.hid h
    clear h hN hw
    go_enter Try.func24, Try.ntmps24
    go_wp2_with fail
    refine (HL.out _ (by omega) _).mono ?_; rw [HW.out]; rintro e w' ⟨rfl, rfl⟩
    go_wp2_with (at_make; refine wpList_make_full _ rfl (.tmp 19) (.tmp 19) 63 rfl 0 3 i0 (.int .i64 0) 1 Try.underlying63 hi hI0 hI1 .i64 .i64 32 32 32 rfl rfl rfl rfl (by omega) (by unfold maxLen; omega) (Nat.zero_le _) ?_)
    intro w1 hown hgrow
    have hz := hgrow.size
    have HO := Lib.hid hown
    have HB : Hid (Below w.heap.size w w1) := (Chg.grown hgrow).below (fun i e => by simp at e) (Nat.le_refl _)
    clear hown hgrow
    go_wp2_with fail
    refine (clr_at m 32 59 HN.out (by rw [HW.out]; rfl) w w1 w.heap.size (List.replicate 32 0) hz (Nat.le_refl _) (by rw [List.map_replicate, ← toList_madeCells_one]; exact HO.out) HB.out).mono ?_
    rintro e w2 ⟨rfl, F, hT, hB, hF⟩
    have HT : Hid (TabObj w2 w1.heap.size (newT m) F ∧ Below w.heap.size w w2 ∧ ∀ b, F b → w.heap.size ≤ b) := ⟨hT, hB, hF⟩
    clear hT hB hF
    go_wp2_with fail
    go_ret2
    exact ⟨w1.heap.size, F, rfl, HT.out⟩
  · have hN : numT m = 64 := by unfold numT; rw [h]
    have HN := Lib.hid hN
    have HW := Lib.hid h
    clear h hN hw
    go_enter Try.func24, Try.ntmps24
    go_wp2_with fail
    refine (HL.out _ (by omega) _).mono ?_; rw [HW.out]; rintro e w' ⟨rfl, rfl⟩
    go_wp2_with (at_make; refine wpList_make_full _ rfl (.tmp 19) (.tmp 19) 63 rfl 0 3 i0 (.int .i64 0) 1 Try.underlying63 hi hI0 hI1 .i64 .i64 64 64 64 rfl rfl rfl rfl (by omega) (by unfold maxLen; omega) (Nat.zero_le _) ?_)
    intro w1 hown hgrow
    have hz := hgrow.size
    have HO := Lib.hid hown
    have HB : Hid (Below w.heap.size w w1) := (Chg.grown hgrow).below (fun i e => by simp at e) (Nat.le_refl _)
    clear hown hgrow
    go_wp2_with fail
    refine (clr_at m 64 58 HN.out (by rw [HW.out]; rfl) w w1 w.heap.size (List.replicate 64 0) hz (Nat.le_refl _) (by rw [List.map_replicate, ← toList_madeCells_one]; exact HO.out) HB.out).mono ?_
    rintro e w2 ⟨rfl, F, hT, hB, hF⟩
    have HT : Hid (TabObj w2 w1.heap.size (newT m) F ∧ Below w.heap.size w w2 ∧ ∀ b, F b → w.heap.size ≤ b) := ⟨hT, hB, hF⟩
    clear hT hB hF
    go_wp2_with fail
    go_ret2
    exact ⟨w1.heap.size, F, rfl, HT.out⟩
end Go.Proofs.Ytekmdekcncgkfaa
