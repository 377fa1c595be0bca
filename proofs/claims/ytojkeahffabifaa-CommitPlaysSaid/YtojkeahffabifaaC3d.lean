/- Layer 3: the program's Load and Store at no address; Sizes, Count, New. -/
import Derived.Test.YtojkeahffabifaaC3b
import Derived.Deep.OwnRows
namespace Go.Proofs.Ytojkeahffabifaa
open Go.RowKit
set_option linter.unusedVariables false
set_option maxHeartbeats 2000000 in
theorem load_out (p ring cells : Nat) (l : List Acc) (th k i j : Int) (ha : ¬ isA ring cells k i j) :
    Lifts Try.prog 68 #[.pointer (some ⟨p, 0, none⟩), .int .i64 th, .agg #[.int .i64 k, .int .i64 i, .int .i64 j]] (MemH p ring cells l) (MemH p ring cells l) (.returned (.tuple #[.int .i64 0, .int .i64 1])) := by
  rintro w F h
  have HO := Lib.hid h
  obtain ⟨hv, sv, cv, lv, h1, h2, h3, h4⟩ := h
  have hb0 : Below w.heap.size w (w.alloc (.cells #[.int .i64 k, .int .i64 i, .int .i64 j] 59)) := (Below.refl _ _).alloc (Nat.le_refl _) _
  have HWD := Lib.hid (word_out _ p ring cells (wordOf l) hv sv cv lv (h1.calm hb0) k i j ha)
  clear h1 h2 h3 h4 ha hb0
  go_enter Try.func68, Try.ntmps68
  go_wp2_with fail
  refine HWD.out.mono ?_
  rintro e w1 ⟨rfl, hb1⟩
  have HB1 : Hid (Below w.heap.size w w1) := ((Below.refl _ _).alloc (Nat.le_refl _) _).trans (hb1.mono (by simp))
  clear hb1 HWD
  go_wp2_with fail
  go_ret2
  exact ⟨rfl, Stp.calm (MemH.good p ring cells l) HO.out HB1.out⟩
set_option maxHeartbeats 2000000 in
theorem store_out (p ring cells : Nat) (l : List Acc) (th k i j v : Int) (ha : ¬ isA ring cells k i j) :
    Lifts Try.prog 20 #[.pointer (some ⟨p, 0, none⟩), .int .i64 th, .agg #[.int .i64 k, .int .i64 i, .int .i64 j], .int .i64 v] (MemH p ring cells l) (MemH p ring cells l) (.returned (.int .i64 1)) := by
  rintro w F h
  have HO := Lib.hid h
  obtain ⟨hv, sv, cv, lv, h1, h2, h3, h4⟩ := h
  have hb0 : Below w.heap.size w (w.alloc (.cells #[.int .i64 k, .int .i64 i, .int .i64 j] 59)) := (Below.refl _ _).alloc (Nat.le_refl _) _
  have HWD := Lib.hid (word_out _ p ring cells (wordOf l) hv sv cv lv (h1.calm hb0) k i j ha)
  clear h1 h2 h3 h4 ha hb0
  go_enter Try.func20, Try.ntmps20
  go_wp2_with fail
  refine HWD.out.mono ?_
  rintro e w1 ⟨rfl, hb1⟩
  have HB1 : Hid (Below w.heap.size w w1) := ((Below.refl _ _).alloc (Nat.le_refl _) _).trans (hb1.mono (by simp))
  clear hb1 HWD
  go_wp2_with fail
  go_ret
  exact ⟨rfl, Stp.calm (MemH.good p ring cells l) HO.out HB1.out⟩
theorem sizes_any (p ring cells : Nat) (l : List Acc) : Looks Try.prog 26 #[.pointer (some ⟨p, 0, none⟩)] (MemH p ring cells l) (.returned (.tuple #[.int .i64 cells, .int .i64 ring])) := by
  rintro w F ⟨hv, sv, cv, lv, h1, h2, h3, h4⟩
  obtain ⟨ha, hac, rfl⟩ := ownAt_form h1.2.1
  obtain ⟨ca, cac, rfl⟩ := ownAt_form h1.2.2.2
  obtain ⟨_, p1, p2, p3, _, fz⟩ := mem_cells h1.1
  clear h1 h2 h3 h4
  go_enter Try.func26, Try.ntmps26
  go_wp2_with fail
  go_quiet (fail)
  go_wp2_with fail
  go_ret2
  exact ⟨rfl, below_drewN (Below.refl _ _) _⟩
end Go.Proofs.Ytojkeahffabifaa
