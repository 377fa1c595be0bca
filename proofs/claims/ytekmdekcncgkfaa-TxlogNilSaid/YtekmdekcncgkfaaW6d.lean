/- Contracts of layer 6 at nil, and the walk of TxlogNil. -/
import Derived.Test.YtekmdekcncgkfaaC6
namespace Go.Proofs.Ytekmdekcncgkfaa
open Go.RowKit
set_option linter.unusedVariables false
theorem logWriteNil_any (c v : Int) (w : World) : Calls Try.prog 8 #[.pointer none, .int .i64 c, .int .i64 v] w fun e w' => e = .returned (.int .i64 1) ∧ w = w' := by
  go_enter Try.func8, Try.ntmps8
  go_wp2_with fail
  go_ret
  exact ⟨rfl, rfl⟩
theorem logOwnNil_any (c : Int) (w : World) : Calls Try.prog 9 #[.pointer none, .int .i64 c] w fun e w' => e = .returned (.tuple #[.int .i64 0, .bool false]) ∧ w = w' := by
  go_enter Try.func9, Try.ntmps9
  go_wp2_with fail
  go_ret2
  exact ⟨rfl, rfl⟩
theorem logReadNil_any (c : Int) (w : World) : Calls Try.prog 10 #[.pointer none, .int .i64 c] w fun e w' => e = .returned (.tuple #[]) ∧ w = w' := by
  go_enter Try.func10, Try.ntmps10
  go_wp2_with fail
  refine bodyPost_end (results_none rfl _ _ _) rfl ?_
  exact ⟨rfl, rfl⟩
theorem logReadsNil_any (w : World) : Calls Try.prog 11 #[.pointer none] w fun e w' => e = .returned (.agg #[.int .u64 0, .int .u64 0, .int .u64 0, .int .u64 0, .int .u64 0, .int .u64 0, .int .u64 0, .int .u64 0]) ∧ Below w.heap.size w w' := by
  have H0 : Hid (Below w.heap.size w (w.alloc (.cells #[.int .u64 0, .int .u64 0, .int .u64 0, .int .u64 0, .int .u64 0, .int .u64 0, .int .u64 0, .int .u64 0] 30))) := (Below.refl _ _).alloc (Nat.le_refl _) _
  go_enter Try.func11, Try.ntmps11
  go_wp2_with fail
  refine bodyPost_ret (v := .agg #[.int .u64 0, .int .u64 0, .int .u64 0, .int .u64 0, .int .u64 0, .int .u64 0, .int .u64 0, .int .u64 0]) (by simp [results, Try.results11, go_sem]) rfl ⟨rfl, ?_⟩
  exact H0.out
theorem logSigNil_any (w : World) : Calls Try.prog 12 #[.pointer none] w fun e w' => e = .returned (.agg #[.int .u64 0, .int .u64 0, .int .u64 0, .int .u64 0, .int .u64 0, .int .u64 0, .int .u64 0, .int .u64 0]) ∧ Below w.heap.size w w' := by
  have H0 : Hid (Below w.heap.size w (w.alloc (.cells #[.int .u64 0, .int .u64 0, .int .u64 0, .int .u64 0, .int .u64 0, .int .u64 0, .int .u64 0, .int .u64 0] 30))) := (Below.refl _ _).alloc (Nat.le_refl _) _
  go_enter Try.func12, Try.ntmps12
  go_wp2_with fail
  refine bodyPost_ret (v := .agg #[.int .u64 0, .int .u64 0, .int .u64 0, .int .u64 0, .int .u64 0, .int .u64 0, .int .u64 0, .int .u64 0]) (by simp [results, Try.results12, go_sem]) rfl ⟨rfl, ?_⟩
  exact H0.out
theorem logWritesNil_any (w : World) : Calls Try.prog 13 #[.pointer none] w fun e w' => e = .returned (.slice none 0 0) ∧ w = w' := by
  go_enter Try.func13, Try.ntmps13
  go_wp2_with fail
  go_ret
  exact ⟨rfl, rfl⟩
theorem logClearNil_any (w : World) : Calls Try.prog 14 #[.pointer none] w fun e w' => e = .returned (.tuple #[]) ∧ w = w' := by
  go_enter Try.func14, Try.ntmps14
  go_wp2_with fail
  refine bodyPost_ret (results_none rfl _ _ _) rfl ?_
  exact ⟨rfl, rfl⟩
set_option maxHeartbeats 1000000 in
theorem txlogNil_law {w : World} (c : Int) (wc : (Lit.int .i64 c).wf = true) (v : Int) (wv : (Lit.int .i64 v).wf = true) :
    Calls Try.prog 3 #[.int .i64 c, .int .i64 v] w fun e w' => e = .returned (.bool true) ∧ Below w.heap.size w w' := by
  have heq := run_sig_eq
  clear wc wv
  go_enter Try.func3, Try.ntmps3
  go_wp2_with fail
  refine (logWriteNil_any _ _ _).mono ?_; rintro e w' ⟨rfl, rfl⟩
  go_wp2_with fail
  refine (logOwnNil_any _ _).mono ?_; rintro e w' ⟨rfl, rfl⟩
  go_wp2_with fail
  refine (logReadNil_any _ _).mono ?_; rintro e w' ⟨rfl, rfl⟩
  go_wp2_with fail
  refine (logReadsNil_any _).mono ?_; rintro e w1 ⟨rfl, hb⟩
  have H1 := Lib.hid hb
  clear hb
  go_wp2_with fail
  obtain ⟨wa, hwa⟩ : ∃ wa, wa = w1.alloc (.cells #[.int .u64 0, .int .u64 0, .int .u64 0, .int .u64 0, .int .u64 0, .int .u64 0, .int .u64 0, .int .u64 0] 30) := ⟨_, rfl⟩
  have hga : wa.heap[w1.heap.size]? = some (.cells #[.int .u64 0, .int .u64 0, .int .u64 0, .int .u64 0, .int .u64 0, .int .u64 0, .int .u64 0, .int .u64 0] 30) := by rw [hwa]; exact heapAlloc _ _
  have hna : w1.heap.size < wa.heap.size := by rw [hwa]; simp
  have HA : Hid (Below w.heap.size w wa) := by show Below _ _ _; rw [hwa]; exact H1.out.alloc H1.out.size _
  rw [← hwa]
  have hz0 := H1.out.size
  clear hwa H1
  refine (logSigNil_any _).mono ?_; rintro e w2 ⟨rfl, hb⟩
  have hgb := heapAlloc_old ((hb.block _ hna).trans hga) (.cells #[.int .u64 0, .int .u64 0, .int .u64 0, .int .u64 0, .int .u64 0, .int .u64 0, .int .u64 0, .int .u64 0] 30)
  have d0 : (w2.alloc (.cells #[.int .u64 0, .int .u64 0, .int .u64 0, .int .u64 0, .int .u64 0, .int .u64 0, .int .u64 0, .int .u64 0] 30)).cell? ⟨w1.heap.size, 0, none⟩ = some (.int .u64 0) := by simp only [World.cell?, hgb]; rfl
  have d1 : (w2.alloc (.cells #[.int .u64 0, .int .u64 0, .int .u64 0, .int .u64 0, .int .u64 0, .int .u64 0, .int .u64 0, .int .u64 0] 30)).cell? ⟨w1.heap.size, 1, none⟩ = some (.int .u64 0) := by simp only [World.cell?, hgb]; rfl
  have d2 : (w2.alloc (.cells #[.int .u64 0, .int .u64 0, .int .u64 0, .int .u64 0, .int .u64 0, .int .u64 0, .int .u64 0, .int .u64 0] 30)).cell? ⟨w1.heap.size, 2, none⟩ = some (.int .u64 0) := by simp only [World.cell?, hgb]; rfl
  have d3 : (w2.alloc (.cells #[.int .u64 0, .int .u64 0, .int .u64 0, .int .u64 0, .int .u64 0, .int .u64 0, .int .u64 0, .int .u64 0] 30)).cell? ⟨w1.heap.size, 3, none⟩ = some (.int .u64 0) := by simp only [World.cell?, hgb]; rfl
  have d4 : (w2.alloc (.cells #[.int .u64 0, .int .u64 0, .int .u64 0, .int .u64 0, .int .u64 0, .int .u64 0, .int .u64 0, .int .u64 0] 30)).cell? ⟨w1.heap.size, 4, none⟩ = some (.int .u64 0) := by simp only [World.cell?, hgb]; rfl
  have d5 : (w2.alloc (.cells #[.int .u64 0, .int .u64 0, .int .u64 0, .int .u64 0, .int .u64 0, .int .u64 0, .int .u64 0, .int .u64 0] 30)).cell? ⟨w1.heap.size, 5, none⟩ = some (.int .u64 0) := by simp only [World.cell?, hgb]; rfl
  have d6 : (w2.alloc (.cells #[.int .u64 0, .int .u64 0, .int .u64 0, .int .u64 0, .int .u64 0, .int .u64 0, .int .u64 0, .int .u64 0] 30)).cell? ⟨w1.heap.size, 6, none⟩ = some (.int .u64 0) := by simp only [World.cell?, hgb]; rfl
  have d7 : (w2.alloc (.cells #[.int .u64 0, .int .u64 0, .int .u64 0, .int .u64 0, .int .u64 0, .int .u64 0, .int .u64 0, .int .u64 0] 30)).cell? ⟨w1.heap.size, 7, none⟩ = some (.int .u64 0) := by simp only [World.cell?, hgb]; rfl
  have hz2 := hb.size
  have HA2 : Hid (Below w.heap.size w (w2.alloc (.cells #[.int .u64 0, .int .u64 0, .int .u64 0, .int .u64 0, .int .u64 0, .int .u64 0, .int .u64 0, .int .u64 0] 30))) := (HA.out.trans (hb.mono (by omega))).alloc (by omega) _
  clear hb hga hgb HA
  go_wp2_with fail
  refine (logWritesNil_any _).mono ?_; rintro e w' ⟨rfl, rfl⟩
  go_wp2_with fail
  refine (logClearNil_any _).mono ?_; rintro e w' ⟨rfl, rfl⟩
  go_wp2_with fail
  go_ret
  exact ⟨rfl, HA2.out⟩
end Go.Proofs.Ytekmdekcncgkfaa
