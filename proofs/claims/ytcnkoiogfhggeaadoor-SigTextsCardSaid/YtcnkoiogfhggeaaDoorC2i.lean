/- Contracts of layer 2 (sig): Union, Meet. -/
import Derived.Test.YtcnkoiogfhggeaaDoorC2h
import Derived.Test.YtcnkoiogfhggeaaDoorS2b
namespace Go.Proofs.YtcnkoiogfhggeaaDoor
open Go.RowKit
set_option linter.unusedVariables false
theorem heap3_0 (w : World) (o1 o2 o3 : Obj) : (((w.alloc o1).alloc o2).alloc o3).heap[w.heap.size]? = some o1 := by
  show (((w.heap.push o1).push o2).push o3)[w.heap.size]? = _
  simp only [Array.getElem?_push, Array.size_push]
  rw [if_neg (by omega), if_neg (by omega), if_pos trivial]
theorem heap3_1 (w : World) (o1 o2 o3 : Obj) : (((w.alloc o1).alloc o2).alloc o3).heap[w.heap.size + 1]? = some o2 := by
  show (((w.heap.push o1).push o2).push o3)[w.heap.size + 1]? = _
  simp only [Array.getElem?_push, Array.size_push]
  rw [if_neg (by omega), if_pos trivial]
theorem heap3_2 (w : World) (o1 o2 o3 : Obj) : (((w.alloc o1).alloc o2).alloc o3).heap[w.heap.size + 2]? = some o3 := by
  show (((w.heap.push o1).push o2).push o3)[w.heap.size + 2]? = _
  simp only [Array.getElem?_push, Array.size_push]
  rw [if_pos trivial]
theorem mixW_at (g a : Nat → Int) (k : Nat) : mixW g a k k = a k := by unfold mixW; rw [if_neg (by omega)]
theorem mixW_lt0 (g a : Nat → Int) : mixW g a 8 0 = g 0 := rfl
theorem mixW_lt1 (g a : Nat → Int) : mixW g a 8 1 = g 1 := rfl
theorem mixW_lt2 (g a : Nat → Int) : mixW g a 8 2 = g 2 := rfl
theorem mixW_lt3 (g a : Nat → Int) : mixW g a 8 3 = g 3 := rfl
theorem mixW_lt4 (g a : Nat → Int) : mixW g a 8 4 = g 4 := rfl
theorem mixW_lt5 (g a : Nat → Int) : mixW g a 8 5 = g 5 := rfl
theorem mixW_lt6 (g a : Nat → Int) : mixW g a 8 6 = g 6 := rfl
theorem mixW_lt7 (g a : Nat → Int) : mixW g a 8 7 = g 7 := rfl
theorem mixW_step {w : World} {b k : Nat} {g a : Nat → Int} {T : TypeId} (h : w.heap[b]? = some (.cells #[.int .u64 (mixW g a k 0), .int .u64 (mixW g a k 1), .int .u64 (mixW g a k 2), .int .u64 (mixW g a k 3), .int .u64 (mixW g a k 4), .int .u64 (mixW g a k 5), .int .u64 (mixW g a k 6), .int .u64 (mixW g a k 7)] T)) (hk : k < 8) :
    (w.setCell ⟨b, k, none⟩ (.int .u64 (g k))).heap[b]? = some (.cells #[.int .u64 (mixW g a (k + 1) 0), .int .u64 (mixW g a (k + 1) 1), .int .u64 (mixW g a (k + 1) 2), .int .u64 (mixW g a (k + 1) 3), .int .u64 (mixW g a (k + 1) 4), .int .u64 (mixW g a (k + 1) 5), .int .u64 (mixW g a (k + 1) 6), .int .u64 (mixW g a (k + 1) 7)] T) := by
  rw [heap_setCell_eq w b k _ _ T _ h]
  match k, hk with
  | 0, _ => simp [mixW]
  | 1, _ => simp [mixW]
  | 2, _ => simp [mixW]
  | 3, _ => simp [mixW]
  | 4, _ => simp [mixW]
  | 5, _ => simp [mixW]
  | 6, _ => simp [mixW]
  | 7, _ => simp [mixW]
set_option maxHeartbeats 2000000 in
theorem union_any (a b : Nat → Int) (w : World) :
    Calls Tryd.prog 22 #[(.agg #[.int .u64 (a 0), .int .u64 (a 1), .int .u64 (a 2), .int .u64 (a 3), .int .u64 (a 4), .int .u64 (a 5), .int .u64 (a 6), .int .u64 (a 7)]), (.agg #[.int .u64 (b 0), .int .u64 (b 1), .int .u64 (b 2), .int .u64 (b 3), .int .u64 (b 4), .int .u64 (b 5), .int .u64 (b 6), .int .u64 (b 7)])] w fun e w' => e = .returned (.agg #[.int .u64 (orS a b 0), .int .u64 (orS a b 1), .int .u64 (orS a b 2), .int .u64 (orS a b 3), .int .u64 (orS a b 4), .int .u64 (orS a b 5), .int .u64 (orS a b 6), .int .u64 (orS a b 7)]) ∧ Below w.heap.size w w' := by
  have HG : Hid (∀ i, orS a b i = bits .or .u64 (a i) (b i)) := fun _ => rfl
  generalize orS a b = g at *
  have i0 : ∀ w, (Instr.index 25 (.agg #[.int .u64 (b 0), .int .u64 (b 1), .int .u64 (b 2), .int .u64 (b 3), .int .u64 (b 4), .int .u64 (b 5), .int .u64 (b 6), .int .u64 (b 7)]) (.int .i64 0)).run Tryd.prog w = .ok (.int .u64 (b 0)) w := fun _ => by kernel_rfl
  have i1 : ∀ w, (Instr.index 25 (.agg #[.int .u64 (b 0), .int .u64 (b 1), .int .u64 (b 2), .int .u64 (b 3), .int .u64 (b 4), .int .u64 (b 5), .int .u64 (b 6), .int .u64 (b 7)]) (.int .i64 1)).run Tryd.prog w = .ok (.int .u64 (b 1)) w := fun _ => by kernel_rfl
  have i2 : ∀ w, (Instr.index 25 (.agg #[.int .u64 (b 0), .int .u64 (b 1), .int .u64 (b 2), .int .u64 (b 3), .int .u64 (b 4), .int .u64 (b 5), .int .u64 (b 6), .int .u64 (b 7)]) (.int .i64 2)).run Tryd.prog w = .ok (.int .u64 (b 2)) w := fun _ => by kernel_rfl
  have i3 : ∀ w, (Instr.index 25 (.agg #[.int .u64 (b 0), .int .u64 (b 1), .int .u64 (b 2), .int .u64 (b 3), .int .u64 (b 4), .int .u64 (b 5), .int .u64 (b 6), .int .u64 (b 7)]) (.int .i64 3)).run Tryd.prog w = .ok (.int .u64 (b 3)) w := fun _ => by kernel_rfl
  have i4 : ∀ w, (Instr.index 25 (.agg #[.int .u64 (b 0), .int .u64 (b 1), .int .u64 (b 2), .int .u64 (b 3), .int .u64 (b 4), .int .u64 (b 5), .int .u64 (b 6), .int .u64 (b 7)]) (.int .i64 4)).run Tryd.prog w = .ok (.int .u64 (b 4)) w := fun _ => by kernel_rfl
  have i5 : ∀ w, (Instr.index 25 (.agg #[.int .u64 (b 0), .int .u64 (b 1), .int .u64 (b 2), .int .u64 (b 3), .int .u64 (b 4), .int .u64 (b 5), .int .u64 (b 6), .int .u64 (b 7)]) (.int .i64 5)).run Tryd.prog w = .ok (.int .u64 (b 5)) w := fun _ => by kernel_rfl
  have i6 : ∀ w, (Instr.index 25 (.agg #[.int .u64 (b 0), .int .u64 (b 1), .int .u64 (b 2), .int .u64 (b 3), .int .u64 (b 4), .int .u64 (b 5), .int .u64 (b 6), .int .u64 (b 7)]) (.int .i64 6)).run Tryd.prog w = .ok (.int .u64 (b 6)) w := fun _ => by kernel_rfl
  have i7 : ∀ w, (Instr.index 25 (.agg #[.int .u64 (b 0), .int .u64 (b 1), .int .u64 (b 2), .int .u64 (b 3), .int .u64 (b 4), .int .u64 (b 5), .int .u64 (b 6), .int .u64 (b 7)]) (.int .i64 7)).run Tryd.prog w = .ok (.int .u64 (b 7)) w := fun _ => by kernel_rfl
  go_enter Tryd.func22, Tryd.ntmps22
  go_wp2_with fail
  go_loopw [5, 6, 8] (fun _ _ i wr => ∃ k : Nat, k ≤ 8 ∧ i = .int .i64 k ∧ w.heap.size + 3 ≤ wr.heap.size ∧ Hid (wr.heap[w.heap.size]? = some (.cells #[.int .u64 (mixW g a k 0), .int .u64 (mixW g a k 1), .int .u64 (mixW g a k 2), .int .u64 (mixW g a k 3), .int .u64 (mixW g a k 4), .int .u64 (mixW g a k 5), .int .u64 (mixW g a k 6), .int .u64 (mixW g a k 7)] 25) ∧ wr.heap[w.heap.size + 2]? = some (.cells #[.int .u64 (noS 0), .int .u64 (noS 1), .int .u64 (noS 2), .int .u64 (noS 3), .int .u64 (noS 4), .int .u64 (noS 5), .int .u64 (noS 6), .int .u64 (noS 7)] 25) ∧ Below w.heap.size w wr)) (fun _ _ i _ => 8 - (intOf i).toNat)
  case atStart =>
    refine ⟨0, by omega, rfl, by simp, ⟨?_, ?_, ?_⟩⟩
    · exact heap3_0 w _ _ _
    · exact heap3_2 w _ _ _
    · exact (((Below.refl _ _).alloc (Nat.le_refl _) _).alloc (by simp) _).alloc (by simp; omega) _
  case round =>
    obtain ⟨k, hk, rfl, hsz, HH⟩ := hrel
    obtain ⟨h1, h0, hb⟩ := HH.out
    obtain ⟨c0, c1, c2, c3, c4, c5, c6, c7, fz⟩ := blk_facts h1
    by_cases hlt : k < 8
    · have HX : Hid (∀ i, i < 8 → ∀ v, v = g i → k = i → (wr.setCell ⟨w.heap.size, i, none⟩ (.int .u64 v)).heap[w.heap.size]? = some (.cells #[.int .u64 (mixW g a (i + 1) 0), .int .u64 (mixW g a (i + 1) 1), .int .u64 (mixW g a (i + 1) 2), .int .u64 (mixW g a (i + 1) 3), .int .u64 (mixW g a (i + 1) 4), .int .u64 (mixW g a (i + 1) 5), .int .u64 (mixW g a (i + 1) 6), .int .u64 (mixW g a (i + 1) 7)] 25)) := by
        intro i hi v hv hki
        subst hki
        subst hv
        exact mixW_step h1 hi
      clear hb h1 h0
      rcases (show k = 0 ∨ k = 1 ∨ k = 2 ∨ k = 3 ∨ k = 4 ∨ k = 5 ∨ k = 6 ∨ k = 7 by omega) with rfl | rfl | rfl | rfl | rfl | rfl | rfl | rfl
      · simp only [mixW_at] at c0
        go_wp2_with fail
        go_roundw
        case rel => exact ⟨1, by omega, by go_num, by simpa using hsz, HX.out 0 (by omega) _ (HG.out 0).symm rfl, (heap_setCell_ne _ _ _ _ (by simp)).trans HH.out.2.1, HH.out.2.2.setCell (Nat.le_refl _) _⟩
        case measure => simp [intOf]
      · simp only [mixW_at] at c1
        go_wp2_with fail
        go_roundw
        case rel => exact ⟨2, by omega, by go_num, by simpa using hsz, HX.out 1 (by omega) _ (HG.out 1).symm rfl, (heap_setCell_ne _ _ _ _ (by simp)).trans HH.out.2.1, HH.out.2.2.setCell (Nat.le_refl _) _⟩
        case measure => simp [intOf]
      · simp only [mixW_at] at c2
        go_wp2_with fail
        go_roundw
        case rel => exact ⟨3, by omega, by go_num, by simpa using hsz, HX.out 2 (by omega) _ (HG.out 2).symm rfl, (heap_setCell_ne _ _ _ _ (by simp)).trans HH.out.2.1, HH.out.2.2.setCell (Nat.le_refl _) _⟩
        case measure => simp [intOf]
      · simp only [mixW_at] at c3
        go_wp2_with fail
        go_roundw
        case rel => exact ⟨4, by omega, by go_num, by simpa using hsz, HX.out 3 (by omega) _ (HG.out 3).symm rfl, (heap_setCell_ne _ _ _ _ (by simp)).trans HH.out.2.1, HH.out.2.2.setCell (Nat.le_refl _) _⟩
        case measure => simp [intOf]
      · simp only [mixW_at] at c4
        go_wp2_with fail
        go_roundw
        case rel => exact ⟨5, by omega, by go_num, by simpa using hsz, HX.out 4 (by omega) _ (HG.out 4).symm rfl, (heap_setCell_ne _ _ _ _ (by simp)).trans HH.out.2.1, HH.out.2.2.setCell (Nat.le_refl _) _⟩
        case measure => simp [intOf]
      · simp only [mixW_at] at c5
        go_wp2_with fail
        go_roundw
        case rel => exact ⟨6, by omega, by go_num, by simpa using hsz, HX.out 5 (by omega) _ (HG.out 5).symm rfl, (heap_setCell_ne _ _ _ _ (by simp)).trans HH.out.2.1, HH.out.2.2.setCell (Nat.le_refl _) _⟩
        case measure => simp [intOf]
      · simp only [mixW_at] at c6
        go_wp2_with fail
        go_roundw
        case rel => exact ⟨7, by omega, by go_num, by simpa using hsz, HX.out 6 (by omega) _ (HG.out 6).symm rfl, (heap_setCell_ne _ _ _ _ (by simp)).trans HH.out.2.1, HH.out.2.2.setCell (Nat.le_refl _) _⟩
        case measure => simp [intOf]
      · simp only [mixW_at] at c7
        go_wp2_with fail
        go_roundw
        case rel => exact ⟨8, by omega, by go_num, by simpa using hsz, HX.out 7 (by omega) _ (HG.out 7).symm rfl, (heap_setCell_ne _ _ _ _ (by simp)).trans HH.out.2.1, HH.out.2.2.setCell (Nat.le_refl _) _⟩
        case measure => simp [intOf]
    · obtain ⟨d0, d1, d2, d3, d4, d5, d6, d7, gz⟩ := blk_facts h0
      obtain rfl : k = 8 := by omega
      have HB := Lib.hid hb
      clear hb h0 h1
      simp only [mixW_lt0, mixW_lt1, mixW_lt2, mixW_lt3, mixW_lt4, mixW_lt5, mixW_lt6, mixW_lt7] at c0 c1 c2 c3 c4 c5 c6 c7
      go_wp2_with fail
      refine bodyPost_ret (v := _) (by simp [results, Tryd.results22, go_sem, d0, d1, d2, d3, d4, d5, d6, d7]) rfl ⟨rfl, ?_⟩
      exact set8_below HB.out _ (by omega) _ _ _ _ _ _ _ _
set_option maxHeartbeats 2000000 in
theorem meet_any (a b : Nat → Int) (w : World) :
    Calls Tryd.prog 24 #[(.agg #[.int .u64 (a 0), .int .u64 (a 1), .int .u64 (a 2), .int .u64 (a 3), .int .u64 (a 4), .int .u64 (a 5), .int .u64 (a 6), .int .u64 (a 7)]), (.agg #[.int .u64 (b 0), .int .u64 (b 1), .int .u64 (b 2), .int .u64 (b 3), .int .u64 (b 4), .int .u64 (b 5), .int .u64 (b 6), .int .u64 (b 7)])] w fun e w' => e = .returned (.agg #[.int .u64 (andS a b 0), .int .u64 (andS a b 1), .int .u64 (andS a b 2), .int .u64 (andS a b 3), .int .u64 (andS a b 4), .int .u64 (andS a b 5), .int .u64 (andS a b 6), .int .u64 (andS a b 7)]) ∧ Below w.heap.size w w' := by
  have HG : Hid (∀ i, andS a b i = bits .and .u64 (a i) (b i)) := fun _ => rfl
  generalize andS a b = g at *
  have i0 : ∀ w, (Instr.index 25 (.agg #[.int .u64 (b 0), .int .u64 (b 1), .int .u64 (b 2), .int .u64 (b 3), .int .u64 (b 4), .int .u64 (b 5), .int .u64 (b 6), .int .u64 (b 7)]) (.int .i64 0)).run Tryd.prog w = .ok (.int .u64 (b 0)) w := fun _ => by kernel_rfl
  have i1 : ∀ w, (Instr.index 25 (.agg #[.int .u64 (b 0), .int .u64 (b 1), .int .u64 (b 2), .int .u64 (b 3), .int .u64 (b 4), .int .u64 (b 5), .int .u64 (b 6), .int .u64 (b 7)]) (.int .i64 1)).run Tryd.prog w = .ok (.int .u64 (b 1)) w := fun _ => by kernel_rfl
  have i2 : ∀ w, (Instr.index 25 (.agg #[.int .u64 (b 0), .int .u64 (b 1), .int .u64 (b 2), .int .u64 (b 3), .int .u64 (b 4), .int .u64 (b 5), .int .u64 (b 6), .int .u64 (b 7)]) (.int .i64 2)).run Tryd.prog w = .ok (.int .u64 (b 2)) w := fun _ => by kernel_rfl
  have i3 : ∀ w, (Instr.index 25 (.agg #[.int .u64 (b 0), .int .u64 (b 1), .int .u64 (b 2), .int .u64 (b 3), .int .u64 (b 4), .int .u64 (b 5), .int .u64 (b 6), .int .u64 (b 7)]) (.int .i64 3)).run Tryd.prog w = .ok (.int .u64 (b 3)) w := fun _ => by kernel_rfl
  have i4 : ∀ w, (Instr.index 25 (.agg #[.int .u64 (b 0), .int .u64 (b 1), .int .u64 (b 2), .int .u64 (b 3), .int .u64 (b 4), .int .u64 (b 5), .int .u64 (b 6), .int .u64 (b 7)]) (.int .i64 4)).run Tryd.prog w = .ok (.int .u64 (b 4)) w := fun _ => by kernel_rfl
  have i5 : ∀ w, (Instr.index 25 (.agg #[.int .u64 (b 0), .int .u64 (b 1), .int .u64 (b 2), .int .u64 (b 3), .int .u64 (b 4), .int .u64 (b 5), .int .u64 (b 6), .int .u64 (b 7)]) (.int .i64 5)).run Tryd.prog w = .ok (.int .u64 (b 5)) w := fun _ => by kernel_rfl
  have i6 : ∀ w, (Instr.index 25 (.agg #[.int .u64 (b 0), .int .u64 (b 1), .int .u64 (b 2), .int .u64 (b 3), .int .u64 (b 4), .int .u64 (b 5), .int .u64 (b 6), .int .u64 (b 7)]) (.int .i64 6)).run Tryd.prog w = .ok (.int .u64 (b 6)) w := fun _ => by kernel_rfl
  have i7 : ∀ w, (Instr.index 25 (.agg #[.int .u64 (b 0), .int .u64 (b 1), .int .u64 (b 2), .int .u64 (b 3), .int .u64 (b 4), .int .u64 (b 5), .int .u64 (b 6), .int .u64 (b 7)]) (.int .i64 7)).run Tryd.prog w = .ok (.int .u64 (b 7)) w := fun _ => by kernel_rfl
  go_enter Tryd.func24, Tryd.ntmps24
  go_wp2_with fail
  go_loopw [5, 6, 8] (fun _ _ i wr => ∃ k : Nat, k ≤ 8 ∧ i = .int .i64 k ∧ w.heap.size + 3 ≤ wr.heap.size ∧ Hid (wr.heap[w.heap.size]? = some (.cells #[.int .u64 (mixW g a k 0), .int .u64 (mixW g a k 1), .int .u64 (mixW g a k 2), .int .u64 (mixW g a k 3), .int .u64 (mixW g a k 4), .int .u64 (mixW g a k 5), .int .u64 (mixW g a k 6), .int .u64 (mixW g a k 7)] 25) ∧ wr.heap[w.heap.size + 2]? = some (.cells #[.int .u64 (noS 0), .int .u64 (noS 1), .int .u64 (noS 2), .int .u64 (noS 3), .int .u64 (noS 4), .int .u64 (noS 5), .int .u64 (noS 6), .int .u64 (noS 7)] 25) ∧ Below w.heap.size w wr)) (fun _ _ i _ => 8 - (intOf i).toNat)
  case atStart =>
    refine ⟨0, by omega, rfl, by simp, ⟨?_, ?_, ?_⟩⟩
    · exact heap3_0 w _ _ _
    · exact heap3_2 w _ _ _
    · exact (((Below.refl _ _).alloc (Nat.le_refl _) _).alloc (by simp) _).alloc (by simp; omega) _
  case round =>
    obtain ⟨k, hk, rfl, hsz, HH⟩ := hrel
    obtain ⟨h1, h0, hb⟩ := HH.out
    obtain ⟨c0, c1, c2, c3, c4, c5, c6, c7, fz⟩ := blk_facts h1
    by_cases hlt : k < 8
    · have HX : Hid (∀ i, i < 8 → ∀ v, v = g i → k = i → (wr.setCell ⟨w.heap.size, i, none⟩ (.int .u64 v)).heap[w.heap.size]? = some (.cells #[.int .u64 (mixW g a (i + 1) 0), .int .u64 (mixW g a (i + 1) 1), .int .u64 (mixW g a (i + 1) 2), .int .u64 (mixW g a (i + 1) 3), .int .u64 (mixW g a (i + 1) 4), .int .u64 (mixW g a (i + 1) 5), .int .u64 (mixW g a (i + 1) 6), .int .u64 (mixW g a (i + 1) 7)] 25)) := by
        intro i hi v hv hki
        subst hki
        subst hv
        exact mixW_step h1 hi
      clear hb h1 h0
      rcases (show k = 0 ∨ k = 1 ∨ k = 2 ∨ k = 3 ∨ k = 4 ∨ k = 5 ∨ k = 6 ∨ k = 7 by omega) with rfl | rfl | rfl | rfl | rfl | rfl | rfl | rfl
      · simp only [mixW_at] at c0
        go_wp2_with fail
        go_roundw
        case rel => exact ⟨1, by omega, by go_num, by simpa using hsz, HX.out 0 (by omega) _ (HG.out 0).symm rfl, (heap_setCell_ne _ _ _ _ (by simp)).trans HH.out.2.1, HH.out.2.2.setCell (Nat.le_refl _) _⟩
        case measure => simp [intOf]
      · simp only [mixW_at] at c1
        go_wp2_with fail
        go_roundw
        case rel => exact ⟨2, by omega, by go_num, by simpa using hsz, HX.out 1 (by omega) _ (HG.out 1).symm rfl, (heap_setCell_ne _ _ _ _ (by simp)).trans HH.out.2.1, HH.out.2.2.setCell (Nat.le_refl _) _⟩
        case measure => simp [intOf]
      · simp only [mixW_at] at c2
        go_wp2_with fail
        go_roundw
        case rel => exact ⟨3, by omega, by go_num, by simpa using hsz, HX.out 2 (by omega) _ (HG.out 2).symm rfl, (heap_setCell_ne _ _ _ _ (by simp)).trans HH.out.2.1, HH.out.2.2.setCell (Nat.le_refl _) _⟩
        case measure => simp [intOf]
      · simp only [mixW_at] at c3
        go_wp2_with fail
        go_roundw
        case rel => exact ⟨4, by omega, by go_num, by simpa using hsz, HX.out 3 (by omega) _ (HG.out 3).symm rfl, (heap_setCell_ne _ _ _ _ (by simp)).trans HH.out.2.1, HH.out.2.2.setCell (Nat.le_refl _) _⟩
        case measure => simp [intOf]
      · simp only [mixW_at] at c4
        go_wp2_with fail
        go_roundw
        case rel => exact ⟨5, by omega, by go_num, by simpa using hsz, HX.out 4 (by omega) _ (HG.out 4).symm rfl, (heap_setCell_ne _ _ _ _ (by simp)).trans HH.out.2.1, HH.out.2.2.setCell (Nat.le_refl _) _⟩
        case measure => simp [intOf]
      · simp only [mixW_at] at c5
        go_wp2_with fail
        go_roundw
        case rel => exact ⟨6, by omega, by go_num, by simpa using hsz, HX.out 5 (by omega) _ (HG.out 5).symm rfl, (heap_setCell_ne _ _ _ _ (by simp)).trans HH.out.2.1, HH.out.2.2.setCell (Nat.le_refl _) _⟩
        case measure => simp [intOf]
      · simp only [mixW_at] at c6
        go_wp2_with fail
        go_roundw
        case rel => exact ⟨7, by omega, by go_num, by simpa using hsz, HX.out 6 (by omega) _ (HG.out 6).symm rfl, (heap_setCell_ne _ _ _ _ (by simp)).trans HH.out.2.1, HH.out.2.2.setCell (Nat.le_refl _) _⟩
        case measure => simp [intOf]
      · simp only [mixW_at] at c7
        go_wp2_with fail
        go_roundw
        case rel => exact ⟨8, by omega, by go_num, by simpa using hsz, HX.out 7 (by omega) _ (HG.out 7).symm rfl, (heap_setCell_ne _ _ _ _ (by simp)).trans HH.out.2.1, HH.out.2.2.setCell (Nat.le_refl _) _⟩
        case measure => simp [intOf]
    · obtain ⟨d0, d1, d2, d3, d4, d5, d6, d7, gz⟩ := blk_facts h0
      obtain rfl : k = 8 := by omega
      have HB := Lib.hid hb
      clear hb h0 h1
      simp only [mixW_lt0, mixW_lt1, mixW_lt2, mixW_lt3, mixW_lt4, mixW_lt5, mixW_lt6, mixW_lt7] at c0 c1 c2 c3 c4 c5 c6 c7
      go_wp2_with fail
      refine bodyPost_ret (v := _) (by simp [results, Tryd.results24, go_sem, d0, d1, d2, d3, d4, d5, d6, d7]) rfl ⟨rfl, ?_⟩
      exact set8_below HB.out _ (by omega) _ _ _ _ _ _ _ _
end Go.Proofs.YtcnkoiogfhggeaaDoor
