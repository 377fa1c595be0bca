/- Contracts of layer 2 (sig): Union, Meet. -/
import Derived.Test.YtcnkoiogfhggeaaDoorC2h
import Derived.Test.YtcnkoiogfhggeaaDoorS2b
import Derived.Lib.TrailingZeros
import Derived.OwnWalk
namespace Go.Proofs.YtcnkoiogfhggeaaDoor
open Go.RowKit
set_option linter.unusedVariables false
theorem heap3_0 (w : World) (o1 o2 o3 : Obj) : (((w.alloc o1).alloc o2).alloc o3).heap[w.heap.size]? = some o1 := by
  show (((w.heap.push o1).push o2).push o3)[w.heap.size]? = _
  simp only [Array.getElem?_push, Array.size_push]
  rw [if_neg (by omega), if_neg (by omega), if_pos trivial]
theorem heap3_1 (w : World) (o1 o2 o3 : Obj) : (((w.alloc o1).alloc o2).alloc o3).heap[w.heap.size + 1]? = some o2 := by
  show (((w.heap.push o1).push o2).push o3)[w.heap.size + 1]? = _
  simp only [Array.getElem?_push, Array.size_push]
  rw [if_neg (by omega), if_pos trivial]
theorem heap3_2 (w : World) (o1 o2 o3 : Obj) : (((w.alloc o1).alloc o2).alloc o3).heap[w.heap.size + 2]? = some o3 := by
  show (((w.heap.push o1).push o2).push o3)[w.heap.size + 2]? = _
  simp only [Array.getElem?_push, Array.size_push]
  rw [if_pos trivial]
theorem mixW_at (g a : Nat → Int) (k : Nat) : mixW g a k k = a k := by unfold mixW; rw [if_neg (by omega)]
theorem mixW_lt0 (g a : Nat → Int) : mixW g a 8 0 = g 0 := rfl
theorem mixW_lt1 (g a : Nat → Int) : mixW g a 8 1 = g 1 := rfl
theorem mixW_lt2 (g a : Nat → Int) : mixW g a 8 2 = g 2 := rfl
theorem mixW_lt3 (g a : Nat → Int) : mixW g a 8 3 = g 3 := rfl
theorem mixW_lt4 (g a : Nat → Int) : mixW g a 8 4 = g 4 := rfl
theorem mixW_lt5 (g a : Nat → Int) : mixW g a 8 5 = g 5 := rfl
theorem mixW_lt6 (g a : Nat → Int) : mixW g a 8 6 = g 6 := rfl
theorem mixW_lt7 (g a : Nat → Int) : mixW g a 8 7 = g 7 := rfl
theorem mixW_step {w : World} {b k : Nat} {g a : Nat → Int} {T : TypeId} (h : w.heap[b]? = some (.cells #[.int .u64 (mixW g a k 0), .int .u64 (mixW g a k 1), .int .u64 (mixW g a k 2), .int .u64 (mixW g a k 3), .int .u64 (mixW g a k 4), .int .u64 (mixW g a k 5), .int .u64 (mixW g a k 6), .int .u64 (mixW g a k 7)] T)) (hk : k < 8) :
    (w.setCell ⟨b, k, none⟩ (.int .u64 (g k))).heap[b]? = some (.cells #[.int .u64 (mixW g a (k + 1) 0), .int .u64 (mixW g a (k + 1) 1), .int .u64 (mixW g a (k + 1) 2), .int .u64 (mixW g a (k + 1) 3), .int .u64 (mixW g a (k + 1) 4), .int .u64 (mixW g a (k + 1) 5), .int .u64 (mixW g a (k + 1) 6), .int .u64 (mixW g a (k + 1) 7)] T) := by
  rw [heap_setCell_eq w b k _ _ T _ h]
  match k, hk with
  | 0, _ => simp [mixW]
  | 1, _ => simp [mixW]
  | 2, _ => simp [mixW]
  | 3, _ => simp [mixW]
  | 4, _ => simp [mixW]
  | 5, _ => simp [mixW]
  | 6, _ => simp [mixW]
  | 7, _ => simp [mixW]
set_option maxHeartbeats 2000000 in
theorem union_any (a b : Nat → Int) (w : World) :
    Calls Tryd.prog 22 #[(.agg #[.int .u64 (a 0), .int .u64 (a 1), .int .u64 (a 2), .int .u64 (a 3), .int .u64 (a 4), .int .u64 (a 5), .int .u64 (a 6), .int .u64 (a 7)]), (.agg #[.int .u64 (b 0), .int .u64 (b 1), .int .u64 (b 2), .int .u64 (b 3), .int .u64 (b 4), .int .u64 (b 5), .int .u64 (b 6), .int .u64 (b 7)])] w fun e w' => e = .returned (.agg #[.int .u64 (orS a b 0), .int .u64 (orS a b 1), .int .u64 (orS a b 2), .int .u64 (orS a b 3), .int .u64 (orS a b 4), .int .u64 (orS a b 5), .int .u64 (orS a b 6), .int .u64 (orS a b 7)]) ∧ Below w.heap.size w w' := by
  have HG : Hid (∀ i, orS a b i = bits .or .u64 (a i) (b i)) := fun _ => rfl
  generalize orS a b = g at *
  have i0 : ∀ w, (Instr.index 25 (.agg #[.int .u64 (b 0), .int .u64 (b 1), .int .u64 (b 2), .int .u64 (b 3), .int .u64 (b 4), .int .u64 (b 5), .int .u64 (b 6), .int .u64 (b 7)]) (.int .i64 0)).run Tryd.prog w = .ok (.int .u64 (b 0)) w := fun _ => by kernel_rfl
  have i1 : ∀ w, (Instr.index 25 (.agg #[.int .u64 (b 0), .int .u64 (b 1), .int .u64 (b 2), .int .u64 (b 3), .int .u64 (b 4), .int .u64 (b 5), .int .u64 (b 6), .int .u64 (b 7)]) (.int .i64 1)).run Tryd.prog w = .ok (.int .u64 (b 1)) w := fun _ => by kernel_rfl
  have i2 : ∀ w, (Instr.index 25 (.agg #[.int .u64 (b 0), .int .u64 (b 1), .int .u64 (b 2), .int .u64 (b 3), .int .u64 (b 4), .int .u64 (b 5), .int .u64 (b 6), .int .u64 (b 7)]) (.int .i64 2)).run Tryd.prog w = .ok (.int .u64 (b 2)) w := fun _ => by kernel_rfl
  have i3 : ∀ w, (Instr.index 25 (.agg #[.int .u64 (b 0), .int .u64 (b 1), .int .u64 (b 2), .int .u64 (b 3), .int .u64 (b 4), .int .u64 (b 5), .int .u64 (b 6), .int .u64 (b 7)]) (.int .i64 3)).run Tryd.prog w = .ok (.int .u64 (b 3)) w := fun _ => by kernel_rfl
  have i4 : ∀ w, (Instr.index 25 (.agg #[.int .u64 (b 0), .int .u64 (b 1), .int .u64 (b 2), .int .u64 (b 3), .int .u64 (b 4), .int .u64 (b 5), .int .u64 (b 6), .int .u64 (b 7)]) (.int .i64 4)).run Tryd.prog w = .ok (.int .u64 (b 4)) w := fun _ => by kernel_rfl
  have i5 : ∀ w, (Instr.index 25 (.agg #[.int .u64 (b 0), .int .u64 (b 1), .int .u64 (b 2), .int .u64 (b 3), .int .u64 (b 4), .int .u64 (b 5), .int .u64 (b 6), .int .u64 (b 7)]) (.int .i64 5)).run Tryd.prog w = .ok (.int .u64 (b 5)) w := fun _ => by kernel_rfl
  have i6 : ∀ w, (Instr.index 25 (.agg #[.int .u64 (b 0), .int .u64 (b 1), .int .u64 (b 2), .int .u64 (b 3), .int .u64 (b 4), .int .u64 (b 5), .int .u64 (b 6), .int .u64 (b 7)]) (.int .i64 6)).run Tryd.prog w = .ok (.int .u64 (b 6)) w := fun _ => by kernel_rfl
  have i7 : ∀ w, (Instr.index 25 (.agg #[.int .u64 (b 0), .int .u64 (b 1), .int .u64 (b 2), .int .u64 (b 3), .int .u64 (b 4), .int .u64 (b 5), .int .u64 (b 6), .int .u64 (b 7)]) (.int .i64 7)).run Tryd.prog w = .ok (.int .u64 (b 7)) w := fun _ => by kernel_rfl
  go_enter Tryd.func22, Tryd.ntmps22
  go_wp2_with fail
  go_loopw [5, 6, 8] (fun _ _ i wr => ∃ k : Nat, k ≤ 8 ∧ i = .int .i64 k ∧ w.heap.size + 3 ≤ wr.heap.size ∧ Hid (wr.heap[w.heap.size]? = some (.cells #[.int .u64 (mixW g a k 0), .int .u64 (mixW g a k 1), .int .u64 (mixW g a k 2), .int .u64 (mixW g a k 3), .int .u64 (mixW g a k 4), .int .u64 (mixW g a k 5), .int .u64 (mixW g a k 6), .int .u64 (mixW g a k 7)] 25) ∧ wr.heap[w.heap.size + 2]? = some (.cells #[.int .u64 (noS 0), .int .u64 (noS 1), .int .u64 (noS 2), .int .u64 (noS 3), .int .u64 (noS 4), .int .u64 (noS 5), .int .u64 (noS 6), .int .u64 (noS 7)] 25) ∧ Below w.heap.size w wr)) (fun _ _ i _ => 8 - (intOf i).toNat)
  case atStart =>
    refine ⟨0, by omega, rfl, by simp, ⟨?_, ?_, ?_⟩⟩
    · exact heap3_0 w _ _ _
    · exact heap3_2 w _ _ _
    · exact (((Below.refl _ _).alloc (Nat.le_refl _) _).alloc (by simp) _).alloc (by simp; omega) _
  case round =>
    obtain ⟨k, hk, rfl, hsz, HH⟩ := hrel
    obtain ⟨h1, h0, hb⟩ := HH.out
    obtain ⟨c0, c1, c2, c3, c4, c5, c6, c7, fz⟩ := blk_facts h1
    by_cases hlt : k < 8
    · have HX : Hid (∀ i, i < 8 → ∀ v, v = g i → k = i → (wr.setCell ⟨w.heap.size, i, none⟩ (.int .u64 v)).heap[w.heap.size]? = some (.cells #[.int .u64 (mixW g a (i + 1) 0), .int .u64 (mixW g a (i + 1) 1), .int .u64 (mixW g a (i + 1) 2), .int .u64 (mixW g a (i + 1) 3), .int .u64 (mixW g a (i + 1) 4), .int .u64 (mixW g a (i + 1) 5), .int .u64 (mixW g a (i + 1) 6), .int .u64 (mixW g a (i + 1) 7)] 25)) := by
        intro i hi v hv hki
        subst hki
        subst hv
        exact mixW_step h1 hi
      clear hb h1 h0
      rcases (show k = 0 ∨ k = 1 ∨ k = 2 ∨ k = 3 ∨ k = 4 ∨ k = 5 ∨ k = 6 ∨ k = 7 by omega) with rfl | rfl | rfl | rfl | rfl | rfl | rfl | rfl
      · simp only [mixW_at] at c0
        go_wp2_with fail
        go_roundw
        case rel => exact ⟨1, by omega, by go_num, by simpa using hsz, HX.out 0 (by omega) _ (HG.out 0).symm rfl, (heap_setCell_ne _ _ _ _ (by simp)).trans HH.out.2.1, HH.out.2.2.setCell (Nat.le_refl _) _⟩
        case measure => simp [intOf]
      · simp only [mixW_at] at c1
        go_wp2_with fail
        go_roundw
        case rel => exact ⟨2, by omega, by go_num, by simpa using hsz, HX.out 1 (by omega) _ (HG.out 1).symm rfl, (heap_setCell_ne _ _ _ _ (by simp)).trans HH.out.2.1, HH.out.2.2.setCell (Nat.le_refl _) _⟩
        case measure => simp [intOf]
      · simp only [mixW_at] at c2
        go_wp2_with fail
        go_roundw
        case rel => exact ⟨3, by omega, by go_num, by simpa using hsz, HX.out 2 (by omega) _ (HG.out 2).symm rfl, (heap_setCell_ne _ _ _ _ (by simp)).trans HH.out.2.1, HH.out.2.2.setCell (Nat.le_refl _) _⟩
        case measure => simp [intOf]
      · simp only [mixW_at] at c3
        go_wp2_with fail
        go_roundw
        case rel => exact ⟨4, by omega, by go_num, by simpa using hsz, HX.out 3 (by omega) _ (HG.out 3).symm rfl, (heap_setCell_ne _ _ _ _ (by simp)).trans HH.out.2.1, HH.out.2.2.setCell (Nat.le_refl _) _⟩
        case measure => simp [intOf]
      · simp only [mixW_at] at c4
        go_wp2_with fail
        go_roundw
        case rel => exact ⟨5, by omega, by go_num, by simpa using hsz, HX.out 4 (by omega) _ (HG.out 4).symm rfl, (heap_setCell_ne _ _ _ _ (by simp)).trans HH.out.2.1, HH.out.2.2.setCell (Nat.le_refl _) _⟩
        case measure => simp [intOf]
      · simp only [mixW_at] at c5
        go_wp2_with fail
        go_roundw
        case rel => exact ⟨6, by omega, by go_num, by simpa using hsz, HX.out 5 (by omega) _ (HG.out 5).symm rfl, (heap_setCell_ne _ _ _ _ (by simp)).trans HH.out.2.1, HH.out.2.2.setCell (Nat.le_refl _) _⟩
        case measure => simp [intOf]
      · simp only [mixW_at] at c6
        go_wp2_with fail
        go_roundw
        case rel => exact ⟨7, by omega, by go_num, by simpa using hsz, HX.out 6 (by omega) _ (HG.out 6).symm rfl, (heap_setCell_ne _ _ _ _ (by simp)).trans HH.out.2.1, HH.out.2.2.setCell (Nat.le_refl _) _⟩
        case measure => simp [intOf]
      · simp only [mixW_at] at c7
        go_wp2_with fail
        go_roundw
        case rel => exact ⟨8, by omega, by go_num, by simpa using hsz, HX.out 7 (by omega) _ (HG.out 7).symm rfl, (heap_setCell_ne _ _ _ _ (by simp)).trans HH.out.2.1, HH.out.2.2.setCell (Nat.le_refl _) _⟩
        case measure => simp [intOf]
    · obtain ⟨d0, d1, d2, d3, d4, d5, d6, d7, gz⟩ := blk_facts h0
      obtain rfl : k = 8 := by omega
      have HB := Lib.hid hb
      clear hb h0 h1
      simp only [mixW_lt0, mixW_lt1, mixW_lt2, mixW_lt3, mixW_lt4, mixW_lt5, mixW_lt6, mixW_lt7] at c0 c1 c2 c3 c4 c5 c6 c7
      go_wp2_with fail
      refine bodyPost_ret (v := _) (by simp [results, Tryd.results22, go_sem, d0, d1, d2, d3, d4, d5, d6, d7]) rfl ⟨rfl, ?_⟩
      exact set8_below HB.out _ (by omega) _ _ _ _ _ _ _ _
set_option maxHeartbeats 2000000 in
theorem meet_any (a b : Nat → Int) (w : World) :
    Calls Tryd.prog 24 #[(.agg #[.int .u64 (a 0), .int .u64 (a 1), .int .u64 (a 2), .int .u64 (a 3), .int .u64 (a 4), .int .u64 (a 5), .int .u64 (a 6), .int .u64 (a 7)]), (.agg #[.int .u64 (b 0), .int .u64 (b 1), .int .u64 (b 2), .int .u64 (b 3), .int .u64 (b 4), .int .u64 (b 5), .int .u64 (b 6), .int .u64 (b 7)])] w fun e w' => e = .returned (.agg #[.int .u64 (andS a b 0), .int .u64 (andS a b 1), .int .u64 (andS a b 2), .int .u64 (andS a b 3), .int .u64 (andS a b 4), .int .u64 (andS a b 5), .int .u64 (andS a b 6), .int .u64 (andS a b 7)]) ∧ Below w.heap.size w w' := by
  have HG : Hid (∀ i, andS a b i = bits .and .u64 (a i) (b i)) := fun _ => rfl
  generalize andS a b = g at *
  have i0 : ∀ w, (Instr.index 25 (.agg #[.int .u64 (b 0), .int .u64 (b 1), .int .u64 (b 2), .int .u64 (b 3), .int .u64 (b 4), .int .u64 (b 5), .int .u64 (b 6), .int .u64 (b 7)]) (.int .i64 0)).run Tryd.prog w = .ok (.int .u64 (b 0)) w := fun _ => by kernel_rfl
  have i1 : ∀ w, (Instr.index 25 (.agg #[.int .u64 (b 0), .int .u64 (b 1), .int .u64 (b 2), .int .u64 (b 3), .int .u64 (b 4), .int .u64 (b 5), .int .u64 (b 6), .int .u64 (b 7)]) (.int .i64 1)).run Tryd.prog w = .ok (.int .u64 (b 1)) w := fun _ => by kernel_rfl
  have i2 : ∀ w, (Instr.index 25 (.agg #[.int .u64 (b 0), .int .u64 (b 1), .int .u64 (b 2), .int .u64 (b 3), .int .u64 (b 4), .int .u64 (b 5), .int .u64 (b 6), .int .u64 (b 7)]) (.int .i64 2)).run Tryd.prog w = .ok (.int .u64 (b 2)) w := fun _ => by kernel_rfl
  have i3 : ∀ w, (Instr.index 25 (.agg #[.int .u64 (b 0), .int .u64 (b 1), .int .u64 (b 2), .int .u64 (b 3), .int .u64 (b 4), .int .u64 (b 5), .int .u64 (b 6), .int .u64 (b 7)]) (.int .i64 3)).run Tryd.prog w = .ok (.int .u64 (b 3)) w := fun _ => by kernel_rfl
  have i4 : ∀ w, (Instr.index 25 (.agg #[.int .u64 (b 0), .int .u64 (b 1), .int .u64 (b 2), .int .u64 (b 3), .int .u64 (b 4), .int .u64 (b 5), .int .u64 (b 6), .int .u64 (b 7)]) (.int .i64 4)).run Tryd.prog w = .ok (.int .u64 (b 4)) w := fun _ => by kernel_rfl
  have i5 : ∀ w, (Instr.index 25 (.agg #[.int .u64 (b 0), .int .u64 (b 1), .int .u64 (b 2), .int .u64 (b 3), .int .u64 (b 4), .int .u64 (b 5), .int .u64 (b 6), .int .u64 (b 7)]) (.int .i64 5)).run Tryd.prog w = .ok (.int .u64 (b 5)) w := fun _ => by kernel_rfl
  have i6 : ∀ w, (Instr.index 25 (.agg #[.int .u64 (b 0), .int .u64 (b 1), .int .u64 (b 2), .int .u64 (b 3), .int .u64 (b 4), .int .u64 (b 5), .int .u64 (b 6), .int .u64 (b 7)]) (.int .i64 6)).run Tryd.prog w = .ok (.int .u64 (b 6)) w := fun _ => by kernel_rfl
  have i7 : ∀ w, (Instr.index 25 (.agg #[.int .u64 (b 0), .int .u64 (b 1), .int .u64 (b 2), .int .u64 (b 3), .int .u64 (b 4), .int .u64 (b 5), .int .u64 (b 6), .int .u64 (b 7)]) (.int .i64 7)).run Tryd.prog w = .ok (.int .u64 (b 7)) w := fun _ => by kernel_rfl
  go_enter Tryd.func24, Tryd.ntmps24
  go_wp2_with fail
  go_loopw [5, 6, 8] (fun _ _ i wr => ∃ k : Nat, k ≤ 8 ∧ i = .int .i64 k ∧ w.heap.size + 3 ≤ wr.heap.size ∧ Hid (wr.heap[w.heap.size]? = some (.cells #[.int .u64 (mixW g a k 0), .int .u64 (mixW g a k 1), .int .u64 (mixW g a k 2), .int .u64 (mixW g a k 3), .int .u64 (mixW g a k 4), .int .u64 (mixW g a k 5), .int .u64 (mixW g a k 6), .int .u64 (mixW g a k 7)] 25) ∧ wr.heap[w.heap.size + 2]? = some (.cells #[.int .u64 (noS 0), .int .u64 (noS 1), .int .u64 (noS 2), .int .u64 (noS 3), .int .u64 (noS 4), .int .u64 (noS 5), .int .u64 (noS 6), .int .u64 (noS 7)] 25) ∧ Below w.heap.size w wr)) (fun _ _ i _ => 8 - (intOf i).toNat)
  case atStart =>
    refine ⟨0, by omega, rfl, by simp, ⟨?_, ?_, ?_⟩⟩
    · exact heap3_0 w _ _ _
    · exact heap3_2 w _ _ _
    · exact (((Below.refl _ _).alloc (Nat.le_refl _) _).alloc (by simp) _).alloc (by simp; omega) _
  case round =>
    obtain ⟨k, hk, rfl, hsz, HH⟩ := hrel
    obtain ⟨h1, h0, hb⟩ := HH.out
    obtain ⟨c0, c1, c2, c3, c4, c5, c6, c7, fz⟩ := blk_facts h1
    by_cases hlt : k < 8
    · have HX : Hid (∀ i, i < 8 → ∀ v, v = g i → k = i → (wr.setCell ⟨w.heap.size, i, none⟩ (.int .u64 v)).heap[w.heap.size]? = some (.cells #[.int .u64 (mixW g a (i + 1) 0), .int .u64 (mixW g a (i + 1) 1), .int .u64 (mixW g a (i + 1) 2), .int .u64 (mixW g a (i + 1) 3), .int .u64 (mixW g a (i + 1) 4), .int .u64 (mixW g a (i + 1) 5), .int .u64 (mixW g a (i + 1) 6), .int .u64 (mixW g a (i + 1) 7)] 25)) := by
        intro i hi v hv hki
        subst hki
        subst hv
        exact mixW_step h1 hi
      clear hb h1 h0
      rcases (show k = 0 ∨ k = 1 ∨ k = 2 ∨ k = 3 ∨ k = 4 ∨ k = 5 ∨ k = 6 ∨ k = 7 by omega) with rfl | rfl | rfl | rfl | rfl | rfl | rfl | rfl
      · simp only [mixW_at] at c0
        go_wp2_with fail
        go_roundw
        case rel => exact ⟨1, by omega, by go_num, by simpa using hsz, HX.out 0 (by omega) _ (HG.out 0).symm rfl, (heap_setCell_ne _ _ _ _ (by simp)).trans HH.out.2.1, HH.out.2.2.setCell (Nat.le_refl _) _⟩
        case measure => simp [intOf]
      · simp only [mixW_at] at c1
        go_wp2_with fail
        go_roundw
        case rel => exact ⟨2, by omega, by go_num, by simpa using hsz, HX.out 1 (by omega) _ (HG.out 1).symm rfl, (heap_setCell_ne _ _ _ _ (by simp)).trans HH.out.2.1, HH.out.2.2.setCell (Nat.le_refl _) _⟩
        case measure => simp [intOf]
      · simp only [mixW_at] at c2
        go_wp2_with fail
        go_roundw
        case rel => exact ⟨3, by omega, by go_num, by simpa using hsz, HX.out 2 (by omega) _ (HG.out 2).symm rfl, (heap_setCell_ne _ _ _ _ (by simp)).trans HH.out.2.1, HH.out.2.2.setCell (Nat.le_refl _) _⟩
        case measure => simp [intOf]
      · simp only [mixW_at] at c3
        go_wp2_with fail
        go_roundw
        case rel => exact ⟨4, by omega, by go_num, by simpa using hsz, HX.out 3 (by omega) _ (HG.out 3).symm rfl, (heap_setCell_ne _ _ _ _ (by simp)).trans HH.out.2.1, HH.out.2.2.setCell (Nat.le_refl _) _⟩
        case measure => simp [intOf]
      · simp only [mixW_at] at c4
        go_wp2_with fail
        go_roundw
        case rel => exact ⟨5, by omega, by go_num, by simpa using hsz, HX.out 4 (by omega) _ (HG.out 4).symm rfl, (heap_setCell_ne _ _ _ _ (by simp)).trans HH.out.2.1, HH.out.2.2.setCell (Nat.le_refl _) _⟩
        case measure => simp [intOf]
      · simp only [mixW_at] at c5
        go_wp2_with fail
        go_roundw
        case rel => exact ⟨6, by omega, by go_num, by simpa using hsz, HX.out 5 (by omega) _ (HG.out 5).symm rfl, (heap_setCell_ne _ _ _ _ (by simp)).trans HH.out.2.1, HH.out.2.2.setCell (Nat.le_refl _) _⟩
        case measure => simp [intOf]
      · simp only [mixW_at] at c6
        go_wp2_with fail
        go_roundw
        case rel => exact ⟨7, by omega, by go_num, by simpa using hsz, HX.out 6 (by omega) _ (HG.out 6).symm rfl, (heap_setCell_ne _ _ _ _ (by simp)).trans HH.out.2.1, HH.out.2.2.setCell (Nat.le_refl _) _⟩
        case measure => simp [intOf]
      · simp only [mixW_at] at c7
        go_wp2_with fail
        go_roundw
        case rel => exact ⟨8, by omega, by go_num, by simpa using hsz, HX.out 7 (by omega) _ (HG.out 7).symm rfl, (heap_setCell_ne _ _ _ _ (by simp)).trans HH.out.2.1, HH.out.2.2.setCell (Nat.le_refl _) _⟩
        case measure => simp [intOf]
    · obtain ⟨d0, d1, d2, d3, d4, d5, d6, d7, gz⟩ := blk_facts h0
      obtain rfl : k = 8 := by omega
      have HB := Lib.hid hb
      clear hb h0 h1
      simp only [mixW_lt0, mixW_lt1, mixW_lt2, mixW_lt3, mixW_lt4, mixW_lt5, mixW_lt6, mixW_lt7] at c0 c1 c2 c3 c4 c5 c6 c7
      go_wp2_with fail
      refine bodyPost_ret (v := _) (by simp [results, Tryd.results24, go_sem, d0, d1, d2, d3, d4, d5, d6, d7]) rfl ⟨rfl, ?_⟩
      exact set8_below HB.out _ (by omega) _ _ _ _ _ _ _ _
end Go.Proofs.YtcnkoiogfhggeaaDoor
namespace Go.Proofs.YtcnkoiogfhggeaaDoor
open Go.RowKit
set_option linter.unusedVariables false
theorem heap4_0 (w : World) (o0 o1 o2 o3 : Obj) : ((((w.alloc o0).alloc o1).alloc o2).alloc o3).heap[w.heap.size]? = some o0 := by
  show ((((w.heap.push o0).push o1).push o2).push o3)[w.heap.size]? = _
  simp only [Array.getElem?_push, Array.size_push]
  rw [if_neg (by omega), if_neg (by omega), if_neg (by omega), if_pos trivial]
theorem heap4_1 (w : World) (o0 o1 o2 o3 : Obj) : ((((w.alloc o0).alloc o1).alloc o2).alloc o3).heap[w.heap.size + 1]? = some o1 := by
  show ((((w.heap.push o0).push o1).push o2).push o3)[w.heap.size + 1]? = _
  simp only [Array.getElem?_push, Array.size_push]
  rw [if_neg (by omega), if_neg (by omega), if_pos trivial]
theorem heap4_2 (w : World) (o0 o1 o2 o3 : Obj) : ((((w.alloc o0).alloc o1).alloc o2).alloc o3).heap[w.heap.size + 2]? = some o2 := by
  show ((((w.heap.push o0).push o1).push o2).push o3)[w.heap.size + 2]? = _
  simp only [Array.getElem?_push, Array.size_push]
  rw [if_neg (by omega), if_pos trivial]
theorem heap4_3 (w : World) (o0 o1 o2 o3 : Obj) : ((((w.alloc o0).alloc o1).alloc o2).alloc o3).heap[w.heap.size + 3]? = some o3 := by
  show ((((w.heap.push o0).push o1).push o2).push o3)[w.heap.size + 3]? = _
  simp only [Array.getElem?_push, Array.size_push]
  rw [if_pos trivial]
set_option maxRecDepth 100000 in
set_option maxHeartbeats 2000000 in
theorem refUnion_any (a b : Nat → Int) (ha : Wds a) (hb : Wds b) (w : World) :
    Calls Tryd.prog 23 #[(.agg #[.int .u64 (a 0), .int .u64 (a 1), .int .u64 (a 2), .int .u64 (a 3), .int .u64 (a 4), .int .u64 (a 5), .int .u64 (a 6), .int .u64 (a 7)]), (.agg #[.int .u64 (b 0), .int .u64 (b 1), .int .u64 (b 2), .int .u64 (b 3), .int .u64 (b 4), .int .u64 (b 5), .int .u64 (b 6), .int .u64 (b 7)])] w fun e w' => e = .returned (.agg #[.int .u64 (orS a b 0), .int .u64 (orS a b 1), .int .u64 (orS a b 2), .int .u64 (orS a b 3), .int .u64 (orS a b 4), .int .u64 (orS a b 5), .int .u64 (orS a b 6), .int .u64 (orS a b 7)]) ∧ Below w.heap.size w w' := by
  obtain ⟨p, HP⟩ : ∃ p : Nat → Bool, Hid (p = fun k => bitB a k || bitB b k) := ⟨_, rfl⟩
  have HF : Hid (∀ i, i < 8 → upTo p 512 i = orS a b i) := by rw [HP.out]; exact upTo_orS ha hb
  have HA := Lib.hid ha
  have HB := Lib.hid hb
  clear ha hb
  go_enter Tryd.func23, Tryd.ntmps23
  go_wp2_with fail
  go_loopw [6, 7, 8] (fun i _ _ wr => ∃ k : Nat, k ≤ 512 ∧ i = .int .i64 k ∧ w.heap.size + 4 ≤ wr.heap.size ∧ Hid (wr.heap[w.heap.size]? = some (.cells #[.int .u64 (a 0), .int .u64 (a 1), .int .u64 (a 2), .int .u64 (a 3), .int .u64 (a 4), .int .u64 (a 5), .int .u64 (a 6), .int .u64 (a 7)] 25) ∧ wr.heap[w.heap.size + 1]? = some (.cells #[.int .u64 (b 0), .int .u64 (b 1), .int .u64 (b 2), .int .u64 (b 3), .int .u64 (b 4), .int .u64 (b 5), .int .u64 (b 6), .int .u64 (b 7)] 25) ∧ wr.heap[w.heap.size + 2]? = some (.cells #[.int .u64 (noS 0), .int .u64 (noS 1), .int .u64 (noS 2), .int .u64 (noS 3), .int .u64 (noS 4), .int .u64 (noS 5), .int .u64 (noS 6), .int .u64 (noS 7)] 25) ∧ wr.heap[w.heap.size + 3]? = some (.cells #[.int .u64 (upTo p k 0), .int .u64 (upTo p k 1), .int .u64 (upTo p k 2), .int .u64 (upTo p k 3), .int .u64 (upTo p k 4), .int .u64 (upTo p k 5), .int .u64 (upTo p k 6), .int .u64 (upTo p k 7)] 25) ∧ Below w.heap.size w wr)) (fun i _ _ _ => 512 - (intOf i).toNat)
  case atStart =>
    refine ⟨0, by omega, rfl, by simp, ⟨?_, ?_, ?_, ?_, ?_⟩⟩
    · exact heap4_0 w _ _ _ _
    · exact heap4_1 w _ _ _ _
    · exact heap4_2 w _ _ _ _
    · exact heap4_3 w _ _ _ _
    · exact ((((Below.refl _ _).alloc (Nat.le_refl _) _).alloc (by simp) _).alloc (by simp; omega) _).alloc (by simp; omega) _
  case round =>
    obtain ⟨k, hk, rfl, hsz, HH⟩ := hrel
    by_cases hlt : k < 512
    · have HBa : Hid (∀ w, Calls Tryd.prog 38 #[(.agg #[.int .u64 (a 0), .int .u64 (a 1), .int .u64 (a 2), .int .u64 (a 3), .int .u64 (a 4), .int .u64 (a 5), .int .u64 (a 6), .int .u64 (a 7)]), .int .i64 k] w fun e w' => e = .returned (.bool (bitB a k)) ∧ Below w.heap.size w w') := fun w => refBit_any a HA.out k hlt w
      have HBb : Hid (∀ w, Calls Tryd.prog 38 #[(.agg #[.int .u64 (b 0), .int .u64 (b 1), .int .u64 (b 2), .int .u64 (b 3), .int .u64 (b 4), .int .u64 (b 5), .int .u64 (b 6), .int .u64 (b 7)]), .int .i64 k] w fun e w' => e = .returned (.bool (bitB b k)) ∧ Below w.heap.size w w') := fun w => refBit_any b HB.out k hlt w
      have HBp : Hid (∀ w, Calls Tryd.prog 37 #[(.agg #[.int .u64 (upTo p k 0), .int .u64 (upTo p k 1), .int .u64 (upTo p k 2), .int .u64 (upTo p k 3), .int .u64 (upTo p k 4), .int .u64 (upTo p k 5), .int .u64 (upTo p k 6), .int .u64 (upTo p k 7)]), .int .i64 k] w fun e w' => e = .returned (.agg #[.int .u64 (putB (upTo p k) k 0), .int .u64 (putB (upTo p k) k 1), .int .u64 (putB (upTo p k) k 2), .int .u64 (putB (upTo p k) k 3), .int .u64 (putB (upTo p k) k 4), .int .u64 (putB (upTo p k) k 5), .int .u64 (putB (upTo p k) k 6), .int .u64 (putB (upTo p k) k 7)]) ∧ Below w.heap.size w w') := fun w => refPut_any _ (upTo_wds p k) k hlt w
      have HN : Hid (upTo p (k + 1) = if (bitB a k || bitB b k) then putB (upTo p k) k else upTo p k) := by show _ = _; rw [HP.out]; rfl
      obtain ⟨c0, c1, c2, c3, c4, c5, c6, c7, fz⟩ := blk_facts HH.out.1
      generalize bitB a k = x at *
      generalize bitB b k = y at *
      generalize putB (upTo p k) k = t' at *
      generalize ht : upTo p k = t at *
      have HTT := Lib.hid ht
      clear ht
      go_wp2_with fail
      refine (HBa.out _).mono ?_; rintro e w1 ⟨rfl, hb1⟩
      have hz1 := hb1.size
      have HH1 : Hid (w1.heap[w.heap.size + 1]? = some (.cells #[.int .u64 (b 0), .int .u64 (b 1), .int .u64 (b 2), .int .u64 (b 3), .int .u64 (b 4), .int .u64 (b 5), .int .u64 (b 6), .int .u64 (b 7)] 25) ∧ w1.heap[w.heap.size + 2]? = some (.cells #[.int .u64 (noS 0), .int .u64 (noS 1), .int .u64 (noS 2), .int .u64 (noS 3), .int .u64 (noS 4), .int .u64 (noS 5), .int .u64 (noS 6), .int .u64 (noS 7)] 25) ∧ w1.heap[w.heap.size + 3]? = some (.cells #[.int .u64 (t 0), .int .u64 (t 1), .int .u64 (t 2), .int .u64 (t 3), .int .u64 (t 4), .int .u64 (t 5), .int .u64 (t 6), .int .u64 (t 7)] 25) ∧ Below w.heap.size w w1 ∧ w1.heap[w.heap.size]? = some (.cells #[.int .u64 (a 0), .int .u64 (a 1), .int .u64 (a 2), .int .u64 (a 3), .int .u64 (a 4), .int .u64 (a 5), .int .u64 (a 6), .int .u64 (a 7)] 25)) :=
        ⟨(hb1.block _ (by omega)).trans HH.out.2.1, (hb1.block _ (by omega)).trans HH.out.2.2.1, (hb1.block _ (by omega)).trans HH.out.2.2.2.1, HH.out.2.2.2.2.trans (hb1.mono (by omega)), (hb1.block _ (by omega)).trans HH.out.1⟩
      clear hb1 c0 c1 c2 c3 c4 c5 c6 c7 fz HH
      obtain ⟨c0, c1, c2, c3, c4, c5, c6, c7, fz⟩ := blk_facts HH1.out.1
      go_wp2_with fail
      refine (HBb.out _).mono ?_; rintro e w2 ⟨rfl, hb1⟩
      have hz2 := hb1.size
      have HH2 : Hid (w2.heap[w.heap.size + 1]? = some (.cells #[.int .u64 (b 0), .int .u64 (b 1), .int .u64 (b 2), .int .u64 (b 3), .int .u64 (b 4), .int .u64 (b 5), .int .u64 (b 6), .int .u64 (b 7)] 25) ∧ w2.heap[w.heap.size + 2]? = some (.cells #[.int .u64 (noS 0), .int .u64 (noS 1), .int .u64 (noS 2), .int .u64 (noS 3), .int .u64 (noS 4), .int .u64 (noS 5), .int .u64 (noS 6), .int .u64 (noS 7)] 25) ∧ w2.heap[w.heap.size + 3]? = some (.cells #[.int .u64 (t 0), .int .u64 (t 1), .int .u64 (t 2), .int .u64 (t 3), .int .u64 (t 4), .int .u64 (t 5), .int .u64 (t 6), .int .u64 (t 7)] 25) ∧ Below w.heap.size w w2 ∧ w2.heap[w.heap.size]? = some (.cells #[.int .u64 (a 0), .int .u64 (a 1), .int .u64 (a 2), .int .u64 (a 3), .int .u64 (a 4), .int .u64 (a 5), .int .u64 (a 6), .int .u64 (a 7)] 25)) :=
        ⟨(hb1.block _ (by omega)).trans HH1.out.1, (hb1.block _ (by omega)).trans HH1.out.2.1, (hb1.block _ (by omega)).trans HH1.out.2.2.1, HH1.out.2.2.2.1.trans (hb1.mono (by omega)), (hb1.block _ (by omega)).trans HH1.out.2.2.2.2⟩
      clear hb1 c0 c1 c2 c3 c4 c5 c6 c7 fz HH1
      obtain ⟨c0, c1, c2, c3, c4, c5, c6, c7, fz⟩ := blk_facts HH2.out.2.2.1
      cases x <;> cases y
      all_goals
        go_wp2_with fail
        first
          | (refine (HBp.out _).mono ?_; rintro e w3 ⟨rfl, hb1⟩
             have hz3 := hb1.size
             obtain ⟨d0, d1, d2, d3, d4, d5, d6, d7, gz⟩ := blk_facts ((hb1.block (w.heap.size + 3) (by omega)).trans HH2.out.2.2.1)
             have HL := Lib.hid hb1
             clear hb1
             go_wp2_with fail
             go_roundw
             case rel =>
               refine ⟨k + 1, by omega, by go_num, by rw [set8_size]; omega, ⟨?_, ?_, ?_, ?_, ?_⟩⟩
               · rw [set8_ne _ _ _ (by omega)]; exact (HL.out.block _ (by omega)).trans HH2.out.2.2.2.2
               · rw [set8_ne _ _ _ (by omega)]; exact (HL.out.block _ (by omega)).trans HH2.out.1
               · rw [set8_ne _ _ _ (by omega)]; exact (HL.out.block _ (by omega)).trans HH2.out.2.1
               · have hN := HN.out
                 simp at hN
                 rw [hN]
                 exact set8 ((HL.out.block _ (by omega)).trans HH2.out.2.2.1) _ _ _ _ _ _ _ _
               · exact set8_below (HH2.out.2.2.2.1.trans (HL.out.mono (by omega))) _ (by omega) _ _ _ _ _ _ _ _
             case measure => simp [intOf]; omega)
          | (go_roundw
             case rel =>
               refine ⟨k + 1, by omega, by go_num, by omega, ⟨HH2.out.2.2.2.2, HH2.out.1, HH2.out.2.1, ?_, HH2.out.2.2.2.1⟩⟩
               have hN := HN.out
               simp at hN
               rw [hN]
               exact HH2.out.2.2.1
             case measure => simp [intOf]; omega)
    · obtain ⟨_, _, h2, h3, hb⟩ := HH.out
      obtain rfl : k = 512 := by omega
      obtain ⟨c0, c1, c2, c3, c4, c5, c6, c7, fz⟩ := blk_facts h3
      obtain ⟨d0, d1, d2, d3, d4, d5, d6, d7, gz⟩ := blk_facts h2
      rw [HF.out _ (by omega)] at c0 c1 c2 c3 c4 c5 c6 c7
      have HL := Lib.hid hb
      clear hb h2 h3
      go_wp2_with fail
      refine bodyPost_ret (v := _) (by simp [results, Tryd.results23, go_sem, d0, d1, d2, d3, d4, d5, d6, d7]) rfl ⟨rfl, ?_⟩
      exact set8_below HL.out _ (by omega) _ _ _ _ _ _ _ _
set_option maxRecDepth 100000 in
set_option maxHeartbeats 2000000 in
theorem refMeet_any (a b : Nat → Int) (ha : Wds a) (hb : Wds b) (w : World) :
    Calls Tryd.prog 25 #[(.agg #[.int .u64 (a 0), .int .u64 (a 1), .int .u64 (a 2), .int .u64 (a 3), .int .u64 (a 4), .int .u64 (a 5), .int .u64 (a 6), .int .u64 (a 7)]), (.agg #[.int .u64 (b 0), .int .u64 (b 1), .int .u64 (b 2), .int .u64 (b 3), .int .u64 (b 4), .int .u64 (b 5), .int .u64 (b 6), .int .u64 (b 7)])] w fun e w' => e = .returned (.agg #[.int .u64 (andS a b 0), .int .u64 (andS a b 1), .int .u64 (andS a b 2), .int .u64 (andS a b 3), .int .u64 (andS a b 4), .int .u64 (andS a b 5), .int .u64 (andS a b 6), .int .u64 (andS a b 7)]) ∧ Below w.heap.size w w' := by
  obtain ⟨p, HP⟩ : ∃ p : Nat → Bool, Hid (p = fun k => bitB a k && bitB b k) := ⟨_, rfl⟩
  have HF : Hid (∀ i, i < 8 → upTo p 512 i = andS a b i) := by rw [HP.out]; exact upTo_andS ha hb
  have HA := Lib.hid ha
  have HB := Lib.hid hb
  clear ha hb
  go_enter Tryd.func25, Tryd.ntmps25
  go_wp2_with fail
  go_loopw [6, 7, 8] (fun i _ _ wr => ∃ k : Nat, k ≤ 512 ∧ i = .int .i64 k ∧ w.heap.size + 4 ≤ wr.heap.size ∧ Hid (wr.heap[w.heap.size]? = some (.cells #[.int .u64 (a 0), .int .u64 (a 1), .int .u64 (a 2), .int .u64 (a 3), .int .u64 (a 4), .int .u64 (a 5), .int .u64 (a 6), .int .u64 (a 7)] 25) ∧ wr.heap[w.heap.size + 1]? = some (.cells #[.int .u64 (b 0), .int .u64 (b 1), .int .u64 (b 2), .int .u64 (b 3), .int .u64 (b 4), .int .u64 (b 5), .int .u64 (b 6), .int .u64 (b 7)] 25) ∧ wr.heap[w.heap.size + 2]? = some (.cells #[.int .u64 (noS 0), .int .u64 (noS 1), .int .u64 (noS 2), .int .u64 (noS 3), .int .u64 (noS 4), .int .u64 (noS 5), .int .u64 (noS 6), .int .u64 (noS 7)] 25) ∧ wr.heap[w.heap.size + 3]? = some (.cells #[.int .u64 (upTo p k 0), .int .u64 (upTo p k 1), .int .u64 (upTo p k 2), .int .u64 (upTo p k 3), .int .u64 (upTo p k 4), .int .u64 (upTo p k 5), .int .u64 (upTo p k 6), .int .u64 (upTo p k 7)] 25) ∧ Below w.heap.size w wr)) (fun i _ _ _ => 512 - (intOf i).toNat)
  case atStart =>
    refine ⟨0, by omega, rfl, by simp, ⟨?_, ?_, ?_, ?_, ?_⟩⟩
    · exact heap4_0 w _ _ _ _
    · exact heap4_1 w _ _ _ _
    · exact heap4_2 w _ _ _ _
    · exact heap4_3 w _ _ _ _
    · exact ((((Below.refl _ _).alloc (Nat.le_refl _) _).alloc (by simp) _).alloc (by simp; omega) _).alloc (by simp; omega) _
  case round =>
    obtain ⟨k, hk, rfl, hsz, HH⟩ := hrel
    by_cases hlt : k < 512
    · have HBa : Hid (∀ w, Calls Tryd.prog 38 #[(.agg #[.int .u64 (a 0), .int .u64 (a 1), .int .u64 (a 2), .int .u64 (a 3), .int .u64 (a 4), .int .u64 (a 5), .int .u64 (a 6), .int .u64 (a 7)]), .int .i64 k] w fun e w' => e = .returned (.bool (bitB a k)) ∧ Below w.heap.size w w') := fun w => refBit_any a HA.out k hlt w
      have HBb : Hid (∀ w, Calls Tryd.prog 38 #[(.agg #[.int .u64 (b 0), .int .u64 (b 1), .int .u64 (b 2), .int .u64 (b 3), .int .u64 (b 4), .int .u64 (b 5), .int .u64 (b 6), .int .u64 (b 7)]), .int .i64 k] w fun e w' => e = .returned (.bool (bitB b k)) ∧ Below w.heap.size w w') := fun w => refBit_any b HB.out k hlt w
      have HBp : Hid (∀ w, Calls Tryd.prog 37 #[(.agg #[.int .u64 (upTo p k 0), .int .u64 (upTo p k 1), .int .u64 (upTo p k 2), .int .u64 (upTo p k 3), .int .u64 (upTo p k 4), .int .u64 (upTo p k 5), .int .u64 (upTo p k 6), .int .u64 (upTo p k 7)]), .int .i64 k] w fun e w' => e = .returned (.agg #[.int .u64 (putB (upTo p k) k 0), .int .u64 (putB (upTo p k) k 1), .int .u64 (putB (upTo p k) k 2), .int .u64 (putB (upTo p k) k 3), .int .u64 (putB (upTo p k) k 4), .int .u64 (putB (upTo p k) k 5), .int .u64 (putB (upTo p k) k 6), .int .u64 (putB (upTo p k) k 7)]) ∧ Below w.heap.size w w') := fun w => refPut_any _ (upTo_wds p k) k hlt w
      have HN : Hid (upTo p (k + 1) = if (bitB a k && bitB b k) then putB (upTo p k) k else upTo p k) := by show _ = _; rw [HP.out]; rfl
      obtain ⟨c0, c1, c2, c3, c4, c5, c6, c7, fz⟩ := blk_facts HH.out.1
      generalize bitB a k = x at *
      generalize bitB b k = y at *
      generalize putB (upTo p k) k = t' at *
      generalize ht : upTo p k = t at *
      have HTT := Lib.hid ht
      clear ht
      go_wp2_with fail
      refine (HBa.out _).mono ?_; rintro e w1 ⟨rfl, hb1⟩
      have hz1 := hb1.size
      have HH1 : Hid (w1.heap[w.heap.size + 1]? = some (.cells #[.int .u64 (b 0), .int .u64 (b 1), .int .u64 (b 2), .int .u64 (b 3), .int .u64 (b 4), .int .u64 (b 5), .int .u64 (b 6), .int .u64 (b 7)] 25) ∧ w1.heap[w.heap.size + 2]? = some (.cells #[.int .u64 (noS 0), .int .u64 (noS 1), .int .u64 (noS 2), .int .u64 (noS 3), .int .u64 (noS 4), .int .u64 (noS 5), .int .u64 (noS 6), .int .u64 (noS 7)] 25) ∧ w1.heap[w.heap.size + 3]? = some (.cells #[.int .u64 (t 0), .int .u64 (t 1), .int .u64 (t 2), .int .u64 (t 3), .int .u64 (t 4), .int .u64 (t 5), .int .u64 (t 6), .int .u64 (t 7)] 25) ∧ Below w.heap.size w w1 ∧ w1.heap[w.heap.size]? = some (.cells #[.int .u64 (a 0), .int .u64 (a 1), .int .u64 (a 2), .int .u64 (a 3), .int .u64 (a 4), .int .u64 (a 5), .int .u64 (a 6), .int .u64 (a 7)] 25)) :=
        ⟨(hb1.block _ (by omega)).trans HH.out.2.1, (hb1.block _ (by omega)).trans HH.out.2.2.1, (hb1.block _ (by omega)).trans HH.out.2.2.2.1, HH.out.2.2.2.2.trans (hb1.mono (by omega)), (hb1.block _ (by omega)).trans HH.out.1⟩
      clear hb1 c0 c1 c2 c3 c4 c5 c6 c7 fz HH
      obtain ⟨c0, c1, c2, c3, c4, c5, c6, c7, fz⟩ := blk_facts HH1.out.1
      go_wp2_with fail
      refine (HBb.out _).mono ?_; rintro e w2 ⟨rfl, hb1⟩
      have hz2 := hb1.size
      have HH2 : Hid (w2.heap[w.heap.size + 1]? = some (.cells #[.int .u64 (b 0), .int .u64 (b 1), .int .u64 (b 2), .int .u64 (b 3), .int .u64 (b 4), .int .u64 (b 5), .int .u64 (b 6), .int .u64 (b 7)] 25) ∧ w2.heap[w.heap.size + 2]? = some (.cells #[.int .u64 (noS 0), .int .u64 (noS 1), .int .u64 (noS 2), .int .u64 (noS 3), .int .u64 (noS 4), .int .u64 (noS 5), .int .u64 (noS 6), .int .u64 (noS 7)] 25) ∧ w2.heap[w.heap.size + 3]? = some (.cells #[.int .u64 (t 0), .int .u64 (t 1), .int .u64 (t 2), .int .u64 (t 3), .int .u64 (t 4), .int .u64 (t 5), .int .u64 (t 6), .int .u64 (t 7)] 25) ∧ Below w.heap.size w w2 ∧ w2.heap[w.heap.size]? = some (.cells #[.int .u64 (a 0), .int .u64 (a 1), .int .u64 (a 2), .int .u64 (a 3), .int .u64 (a 4), .int .u64 (a 5), .int .u64 (a 6), .int .u64 (a 7)] 25)) :=
        ⟨(hb1.block _ (by omega)).trans HH1.out.1, (hb1.block _ (by omega)).trans HH1.out.2.1, (hb1.block _ (by omega)).trans HH1.out.2.2.1, HH1.out.2.2.2.1.trans (hb1.mono (by omega)), (hb1.block _ (by omega)).trans HH1.out.2.2.2.2⟩
      clear hb1 c0 c1 c2 c3 c4 c5 c6 c7 fz HH1
      obtain ⟨c0, c1, c2, c3, c4, c5, c6, c7, fz⟩ := blk_facts HH2.out.2.2.1
      cases x <;> cases y
      all_goals
        go_wp2_with fail
        first
          | (refine (HBp.out _).mono ?_; rintro e w3 ⟨rfl, hb1⟩
             have hz3 := hb1.size
             obtain ⟨d0, d1, d2, d3, d4, d5, d6, d7, gz⟩ := blk_facts ((hb1.block (w.heap.size + 3) (by omega)).trans HH2.out.2.2.1)
             have HL := Lib.hid hb1
             clear hb1
             go_wp2_with fail
             go_roundw
             case rel =>
               refine ⟨k + 1, by omega, by go_num, by rw [set8_size]; omega, ⟨?_, ?_, ?_, ?_, ?_⟩⟩
               · rw [set8_ne _ _ _ (by omega)]; exact (HL.out.block _ (by omega)).trans HH2.out.2.2.2.2
               · rw [set8_ne _ _ _ (by omega)]; exact (HL.out.block _ (by omega)).trans HH2.out.1
               · rw [set8_ne _ _ _ (by omega)]; exact (HL.out.block _ (by omega)).trans HH2.out.2.1
               · have hN := HN.out
                 simp at hN
                 rw [hN]
                 exact set8 ((HL.out.block _ (by omega)).trans HH2.out.2.2.1) _ _ _ _ _ _ _ _
               · exact set8_below (HH2.out.2.2.2.1.trans (HL.out.mono (by omega))) _ (by omega) _ _ _ _ _ _ _ _
             case measure => simp [intOf]; omega)
          | (go_roundw
             case rel =>
               refine ⟨k + 1, by omega, by go_num, by omega, ⟨HH2.out.2.2.2.2, HH2.out.1, HH2.out.2.1, ?_, HH2.out.2.2.2.1⟩⟩
               have hN := HN.out
               simp at hN
               rw [hN]
               exact HH2.out.2.2.1
             case measure => simp [intOf]; omega)
    · obtain ⟨_, _, h2, h3, hb⟩ := HH.out
      obtain rfl : k = 512 := by omega
      obtain ⟨c0, c1, c2, c3, c4, c5, c6, c7, fz⟩ := blk_facts h3
      obtain ⟨d0, d1, d2, d3, d4, d5, d6, d7, gz⟩ := blk_facts h2
      rw [HF.out _ (by omega)] at c0 c1 c2 c3 c4 c5 c6 c7
      have HL := Lib.hid hb
      clear hb h2 h3
      go_wp2_with fail
      refine bodyPost_ret (v := _) (by simp [results, Tryd.results25, go_sem, d0, d1, d2, d3, d4, d5, d6, d7]) rfl ⟨rfl, ?_⟩
      exact set8_below HL.out _ (by omega) _ _ _ _ _ _ _ _
end Go.Proofs.YtcnkoiogfhggeaaDoor
namespace Go.Proofs.YtcnkoiogfhggeaaDoor
open Go.RowKit
/-- The numbers of the bits below n, rising. -/
def bitsI (s : Nat → Int) (n : Nat) : List Int := ((List.range n).filter (bitB s)).map fun (k : Nat) => (k : Int)
theorem bitsI_succ (s : Nat → Int) (n : Nat) : bitsI s (n + 1) = if bitB s n then bitsI s n ++ [(n : Int)] else bitsI s n := by
  unfold bitsI
  rw [List.range_succ, List.filter_append]
  by_cases h : bitB s n = true
  · simp [h]
  · simp [h]
theorem bitsI_len (s : Nat → Int) (n : Nat) : (bitsI s n).length ≤ n := by
  unfold bitsI
  rw [List.length_map]
  have := List.length_filter_le (bitB s) (List.range n)
  rwa [List.length_range] at this
theorem bitsI_skip (s : Nat → Int) (a : Nat) : ∀ d, (∀ j, a ≤ j → j < a + d → bitB s j = false) → bitsI s (a + d) = bitsI s a
  | 0, _ => rfl
  | d + 1, h => by
    rw [show a + (d + 1) = (a + d) + 1 by omega, bitsI_succ, h (a + d) (by omega) (by omega)]
    simp only [Bool.false_eq_true, if_false]
    exact bitsI_skip s a d fun j h1 h2 => h j h1 (by omega)
/-- What is left of a word when its bits below t are gone. -/
def Left (y t x : Nat) : Prop := ∀ j, x.testBit j = (decide (t ≤ j) && y.testBit j)
theorem left_zero (y : Nat) : Left y 0 y := fun j => by simp
theorem left_step {y t x : Nat} (h : Left y t x) (h0 : x ≠ 0) (hx : x < 18446744073709551616) :
    t ≤ Lib.ctz 64 x ∧ Lib.ctz 64 x < 64 ∧ y.testBit (Lib.ctz 64 x) = true ∧ (∀ j, t ≤ j → j < Lib.ctz 64 x → y.testBit j = false) ∧ Left y (Lib.ctz 64 x + 1) (x &&& (x - 1)) ∧ x &&& (x - 1) < x := by
  obtain ⟨m, hm, hk⟩ := Lib.ctzFrom_spec 64 x (by omega) hx
  have e : Lib.ctz 64 x = Lib.ctzFrom 64 x := by simp [Lib.ctz, h0]
  rw [e]
  generalize Lib.ctzFrom 64 x = k at *
  have hp := Nat.two_pow_pos k
  have hb : ∀ j, x.testBit j = (decide (j ≥ k) && (2 * m + 1).testBit (j - k)) := fun j => by rw [hm, Nat.testBit_two_pow_mul]
  have hs : x - 1 = 2 ^ k * (2 * m) + (2 ^ k - 1) := by
    rw [hm, Nat.mul_add, Nat.mul_one]; omega
  have hb1 : ∀ j, (x - 1).testBit j = if j < k then (2 ^ k - 1).testBit j else (2 * m).testBit (j - k) := fun j => by
    rw [hs, Nat.testBit_two_pow_mul_add _ (by omega)]
  have bk : x.testBit k = true := by rw [hb]; simp
  have yk := h k
  rw [bk] at yk
  have hyk : t ≤ k ∧ y.testBit k = true := by simpa using yk.symm
  refine ⟨hyk.1, hk, hyk.2, ?_, ?_, ?_⟩
  · intro j h1 h2
    have := h j
    rw [hb] at this
    simp only [ge_iff_le] at this
    have e1 : decide (k ≤ j) = false := by simp; omega
    have e2 : decide (t ≤ j) = true := by simp; omega
    rw [e1, e2] at this
    simpa using this.symm
  · intro j
    rw [Nat.testBit_and, hb1]
    by_cases hj : j < k
    · rw [if_pos hj, hb]
      have e1 : decide (j ≥ k) = false := by simp; omega
      have e2 : decide (k + 1 ≤ j) = false := by simp; omega
      rw [e1, e2]; simp
    · rw [if_neg hj]
      by_cases hjk : j = k
      · subst hjk; simp; omega
      · have e2 : decide (k + 1 ≤ j) = true := by simp; omega
        have hxy := h j
        have e3 : decide (t ≤ j) = true := by simp; omega
        rw [e3] at hxy
        rw [e2, hxy]
        have e4 : (2 * m).testBit (j - k) = x.testBit j := by
          rw [hb]
          have e1 : decide (j ≥ k) = true := by simp; omega
          rw [e1, Bool.true_and]
          obtain ⟨d, hd⟩ : ∃ d, j - k = d + 1 := ⟨j - k - 1, by omega⟩
          rw [hd, Nat.testBit_succ, Nat.testBit_succ]
          congr 1
          omega
        rw [e4, hxy]; simp
  · have h1 : x &&& (x - 1) ≤ x - 1 := Nat.and_le_right
    omega
theorem left_done {y t : Nat} (h : Left y t 0) : ∀ j, t ≤ j → y.testBit j = false := by
  intro j hj
  have := h j
  rw [Nat.zero_testBit] at this
  have e : decide (t ≤ j) = true := by simp [hj]
  rw [e] at this
  simpa using this.symm
theorem bitsI_next (s : Nat → Int) (i t c : Nat) (h1 : t ≤ c) (hc : c < 64) (hb : (s i).toNat.testBit c = true) (hz : ∀ j, t ≤ j → j < c → (s i).toNat.testBit j = false) :
    bitsI s (64 * i + (c + 1)) = bitsI s (64 * i + t) ++ [((64 * i + c : Nat) : Int)] := by
  have hB : ∀ j, j < 64 → bitB s (64 * i + j) = (s i).toNat.testBit j := fun j hj => by
    unfold bitB
    rw [show (64 * i + j) / 64 = i by omega, show (64 * i + j) % 64 = j by omega]
  rw [show 64 * i + (c + 1) = (64 * i + c) + 1 by omega, bitsI_succ, hB c hc, hb]
  have := bitsI_skip s (64 * i + t) (c - t) (fun j a b => by
    have := hB (j - 64 * i) (by omega)
    rw [show 64 * i + (j - 64 * i) = j by omega] at this
    rw [this]; exact hz _ (by omega) (by omega))
  rw [show 64 * i + t + (c - t) = 64 * i + c by omega] at this
  rw [this]; simp
theorem bitsI_end (s : Nat → Int) (i t : Nat) (h1 : t ≤ 64) (hz : ∀ j, t ≤ j → (s i).toNat.testBit j = false) :
    bitsI s (64 * (i + 1)) = bitsI s (64 * i + t) := by
  have hB : ∀ j, j < 64 → bitB s (64 * i + j) = (s i).toNat.testBit j := fun j hj => by
    unfold bitB
    rw [show (64 * i + j) / 64 = i by omega, show (64 * i + j) % 64 = j by omega]
  have := bitsI_skip s (64 * i + t) (64 - t) (fun j a b => by
    have := hB (j - 64 * i) (by omega)
    rw [show 64 * i + (j - 64 * i) = j by omega] at this
    rw [this]; exact hz _ (by omega))
  rw [show 64 * i + t + (64 - t) = 64 * (i + 1) by omega] at this
  exact this
end Go.Proofs.YtcnkoiogfhggeaaDoor
namespace Go.Proofs.YtcnkoiogfhggeaaDoor
open Go.RowKit
set_option linter.unusedVariables false
theorem own_below {w w1 : World} {B e size n : Nat} {v : Value} {xs : List Value} (h : w.ownsRow B e size v n xs) (hb : Below w.heap.size w w1) : w1.ownsRow B e size v n xs :=
  ⟨h.1, h.2.elim Or.inl fun ⟨g, cap, cur, hv, hg, hh, r⟩ => Or.inr ⟨g, cap, cur, hv, hg, (hb.block g (Array.getElem?_eq_some_iff.1 hh).1).trans hh, r⟩⟩
theorem own_form {w : World} {B e size n : Nat} {v : Value} {xs : List Value} (h : w.ownsRow B e size v n xs) : ∃ a c, v = .slice a n c := by
  rcases h.2 with ⟨rfl, rfl⟩ | ⟨g, cap, cur, rfl, _⟩
  · exact ⟨_, _, rfl⟩
  · exact ⟨_, _, rfl⟩
/-- A list of ints in new memory. -/
def IntsOut (w : World) (xs : List Int) (e : Ending) (w' : World) : Prop :=
  ∃ v, e = .returned v ∧ w'.ownsRow w.heap.size 3 1 v xs.length (xs.map (Value.int .i64)) ∧ Below w.heap.size w w'
theorem infoInt : (Tryd.prog.info? 3).map (fun i => (i.zero, i.size, i.bytes)) = some (some (.int .i64 0), 1, 8) := by kernel_rfl
theorem ownsRow_mono {w : World} {B B' e size n : Nat} {v : Value} {xs : List Value} (h : w.ownsRow B e size v n xs) (hB : B' ≤ B) : w.ownsRow B' e size v n xs :=
  ⟨h.1, h.2.elim Or.inl fun ⟨g, cap, cur, hv, hg, r⟩ => Or.inr ⟨g, cap, cur, hv, Nat.le_trans hB hg, r⟩⟩
set_option maxRecDepth 100000 in
set_option maxHeartbeats 1000000 in
theorem refBits_any (s : Nat → Int) (hs : Wds s) (w : World) : Calls Tryd.prog 18 #[(.agg #[.int .u64 (s 0), .int .u64 (s 1), .int .u64 (s 2), .int .u64 (s 3), .int .u64 (s 4), .int .u64 (s 5), .int .u64 (s 6), .int .u64 (s 7)])] w (IntsOut w (bitsI s 512)) := by
  obtain ⟨i0, hi, hz0, hz1, hz2⟩ := info_parts infoInt
  have HS := Lib.hid hs
  clear hs
  go_enter Tryd.func18, Tryd.ntmps18
  go_wp2_with fail
  go_loopw [3, 4, 5] (fun v i _ wr => ∃ k : Nat, k ≤ 512 ∧ i = .int .i64 k ∧ w.heap.size + 1 ≤ wr.heap.size ∧ wr.ownsRow (w.heap.size + 1) 3 1 v (bitsI s k).length ((bitsI s k).map (Value.int .i64)) ∧ Hid (wr.heap[w.heap.size]? = some (.cells #[.int .u64 (s 0), .int .u64 (s 1), .int .u64 (s 2), .int .u64 (s 3), .int .u64 (s 4), .int .u64 (s 5), .int .u64 (s 6), .int .u64 (s 7)] 25) ∧ Below w.heap.size w wr)) (fun _ i _ _ => 512 - (intOf i).toNat)
  case atStart =>
    refine ⟨0, by omega, rfl, by simp, World.ownsRow_nil _ _ _ _, ⟨?_, (Below.refl _ _).alloc (Nat.le_refl _) _⟩⟩
    show (w.heap.push _)[w.heap.size]? = _
    simp
  case round =>
    obtain ⟨k, hk, rfl, hsz, hown, HH⟩ := hrel
    have hlen := bitsI_len s k
    by_cases hlt : k < 512
    · have HB : Hid (∀ w, Calls Tryd.prog 38 #[(.agg #[.int .u64 (s 0), .int .u64 (s 1), .int .u64 (s 2), .int .u64 (s 3), .int .u64 (s 4), .int .u64 (s 5), .int .u64 (s 6), .int .u64 (s 7)]), .int .i64 k] w fun e w' => e = .returned (.bool (bitB s k)) ∧ Below w.heap.size w w') := fun w => refBit_any s HS.out k hlt w
      have HN := Lib.hid (bitsI_succ s k)
      obtain ⟨c0, c1, c2, c3, c4, c5, c6, c7, fz⟩ := blk_facts HH.out.1
      have HO := Lib.hid hown
      clear hown
      generalize bitB s k = x at *
      go_wp2_with fail
      refine (HB.out _).mono ?_; rintro e w1 ⟨rfl, hb1⟩
      have hz3 := hb1.size
      have hown := own_below HO.out hb1
      have HH1 : Hid (w1.heap[w.heap.size]? = some (.cells #[.int .u64 (s 0), .int .u64 (s 1), .int .u64 (s 2), .int .u64 (s 3), .int .u64 (s 4), .int .u64 (s 5), .int .u64 (s 6), .int .u64 (s 7)] 25) ∧ Below w.heap.size w w1) := ⟨(hb1.block _ (by omega)).trans HH.out.1, HH.out.2.trans (hb1.mono (by omega))⟩
      clear hb1 c0 c1 c2 c3 c4 c5 c6 c7 fz HH HO
      cases x
      · have HO := Lib.hid hown
        clear hown
        go_wp2_with fail
        go_roundw
        case rel =>
          have hN := HN.out
          simp at hN
          exact ⟨k + 1, by omega, by go_num, by omega, by rw [hN]; exact HO.out, HH1.out⟩
        case measure => simp [intOf]; omega
      · go_wp2_with (at_builtin; refine wpList_append_own _ rfl (.tmp 14) (.tmp 16) 22 rfl (w.heap.size + 1) 3 i0 (.int .i64 0) 1 8 Tryd.underlying22 hi hz0 hz1 hz2 rfl (by decide) _ _ _ rfl (hown.alloc _) ⟨w1.heap.size, 0, none⟩ 1 1 [.int .i64 k] rfl rfl ?c1 ?c2 ?c3 ?c4 ?c5 ?_)
        case c1 => exact cell_one_new _ _ _
        case c2 => intro u hu; simp at hu; subst hu; rfl
        case c3 => unfold maxLen; omega
        case c4 => omega
        case c5 => simp; omega
        · intro v' w2 hown' hgrow _
          have hbel' : Below (w.heap.size + 1) w1 w2 := ((Below.refl _ _).alloc (by omega) _).grown hgrow (by simp; omega) (fun j hj => (hown.lt j hj).1)
          have hN := HN.out
          simp at hN
          have HO : Hid (w2.ownsRow (w.heap.size + 1) 3 1 v' (bitsI s (k + 1)).length ((bitsI s (k + 1)).map (Value.int .i64))) := by show World.ownsRow _ _ _ _ _ _ _; rw [hN]; simpa using hown'
          have HB2 := Lib.hid hbel'
          have hz4 := hbel'.size
          clear hown' hown hgrow hN hbel'
          go_wp2_with fail
          go_roundw
          case rel => exact ⟨k + 1, by omega, by go_num, by omega, HO.out, ⟨(HB2.out.block _ (by omega)).trans HH1.out.1, HH1.out.2.trans (HB2.out.mono (by omega))⟩⟩
          case measure => simp [intOf]; omega
    · obtain rfl : k = 512 := by omega
      have HO := Lib.hid hown
      clear hown
      go_wp2_with fail
      go_ret
      exact ⟨_, rfl, ownsRow_mono HO.out (by omega), HH.out.2⟩
end Go.Proofs.YtcnkoiogfhggeaaDoor
namespace Go.Proofs.YtcnkoiogfhggeaaDoor
open Go.RowKit
set_option linter.unusedVariables false
theorem empty_bits (s : Nat → Int) (hs : Wds s) : ((((bitsI s 512).length : Nat) : Int) == 0) = sigEq s noS := by
  rw [Bool.eq_iff_iff, sigEq_iff]
  simp only [beq_iff_eq]
  constructor
  · intro h
    apply eq_of_bits hs noS_wds
    intro k hk
    rw [bitB_noS]
    have hn : bitsI s 512 = [] := List.eq_nil_of_length_eq_zero (by omega)
    unfold bitsI at hn
    rw [List.map_eq_nil_iff, List.filter_eq_nil_iff] at hn
    have := hn k (by simp [hk])
    simpa using this
  · intro h
    have hb : ∀ k, k < 512 → bitB s k = false := fun k hk => by
      have e : bitB s k = bitB noS k := by unfold bitB; rw [h (k / 64) (by omega)]
      rw [e, bitB_noS]
    have hn : bitsI s 512 = [] := by
      unfold bitsI
      rw [List.map_eq_nil_iff, List.filter_eq_nil_iff]
      intro k hk
      simp [hb k (by simpa using hk)]
    rw [hn]; rfl
theorem heap1_0 (w : World) (o : Obj) : (w.alloc o).heap[w.heap.size]? = some o := by
  show (w.heap.push o)[w.heap.size]? = _
  simp
theorem refEmpty_any (s : Nat → Int) (hs : Wds s) (w : World) : Calls Tryd.prog 20 #[(.agg #[.int .u64 (s 0), .int .u64 (s 1), .int .u64 (s 2), .int .u64 (s 3), .int .u64 (s 4), .int .u64 (s 5), .int .u64 (s 6), .int .u64 (s 7)])] w fun e w' => e = .returned (.bool (sigEq s noS)) ∧ Below w.heap.size w w' := by
  have HE := Lib.hid (empty_bits s hs)
  have HS := Lib.hid hs
  clear hs
  go_enter Tryd.func20, Tryd.ntmps20
  go_wp2_with fail
  refine (refBits_any s HS.out _).mono ?_; rintro e w1 ⟨v, rfl, hown, hb⟩
  obtain ⟨a, c, rfl⟩ := own_form hown
  have HB := Lib.hid hb
  clear hb hown
  generalize (bitsI s 512).length = n at *
  go_wp2_with fail
  go_ret
  refine ⟨?_, ((Below.refl _ _).alloc (Nat.le_refl _) _).trans (HB.out.mono (by simp))⟩
  rw [← HE.out]
  simp
theorem meets_any (a b : Nat → Int) (w : World) : Calls Tryd.prog 26 #[(.agg #[.int .u64 (a 0), .int .u64 (a 1), .int .u64 (a 2), .int .u64 (a 3), .int .u64 (a 4), .int .u64 (a 5), .int .u64 (a 6), .int .u64 (a 7)]), (.agg #[.int .u64 (b 0), .int .u64 (b 1), .int .u64 (b 2), .int .u64 (b 3), .int .u64 (b 4), .int .u64 (b 5), .int .u64 (b 6), .int .u64 (b 7)])] w fun e w' => e = .returned (.bool (!sigEq (andS a b) noS)) ∧ Below w.heap.size w w' := by
  have HM : Hid (∀ w, Calls Tryd.prog 24 #[(.agg #[.int .u64 (a 0), .int .u64 (a 1), .int .u64 (a 2), .int .u64 (a 3), .int .u64 (a 4), .int .u64 (a 5), .int .u64 (a 6), .int .u64 (a 7)]), (.agg #[.int .u64 (b 0), .int .u64 (b 1), .int .u64 (b 2), .int .u64 (b 3), .int .u64 (b 4), .int .u64 (b 5), .int .u64 (b 6), .int .u64 (b 7)])] w fun e w' => e = .returned (.agg #[.int .u64 (andS a b 0), .int .u64 (andS a b 1), .int .u64 (andS a b 2), .int .u64 (andS a b 3), .int .u64 (andS a b 4), .int .u64 (andS a b 5), .int .u64 (andS a b 6), .int .u64 (andS a b 7)]) ∧ Below w.heap.size w w') := fun w => meet_any a b w
  generalize andS a b = g at *
  go_enter Tryd.func26, Tryd.ntmps26
  go_wp2_with fail
  refine (HM.out _).mono ?_; rintro e w1 ⟨rfl, hb1⟩
  have HB := Lib.hid hb1
  clear hb1
  go_wp2_with fail
  refine (empty_any g _).mono ?_; rintro e w2 ⟨rfl, hb2⟩
  have HB2 := Lib.hid hb2
  clear hb2
  go_wp2_with fail
  go_ret
  refine ⟨rfl, (((Below.refl _ _).alloc (Nat.le_refl _) _).alloc (by simp) _).trans ((HB.out.mono (by simp; omega)).trans (HB2.out.mono ?_))⟩
  have := HB.out.size
  simp at this
  omega
theorem refMeets_any (a b : Nat → Int) (ha : Wds a) (hb : Wds b) (w : World) : Calls Tryd.prog 27 #[(.agg #[.int .u64 (a 0), .int .u64 (a 1), .int .u64 (a 2), .int .u64 (a 3), .int .u64 (a 4), .int .u64 (a 5), .int .u64 (a 6), .int .u64 (a 7)]), (.agg #[.int .u64 (b 0), .int .u64 (b 1), .int .u64 (b 2), .int .u64 (b 3), .int .u64 (b 4), .int .u64 (b 5), .int .u64 (b 6), .int .u64 (b 7)])] w fun e w' => e = .returned (.bool (!sigEq (andS a b) noS)) ∧ Below w.heap.size w w' := by
  have HM : Hid (∀ w, Calls Tryd.prog 25 #[(.agg #[.int .u64 (a 0), .int .u64 (a 1), .int .u64 (a 2), .int .u64 (a 3), .int .u64 (a 4), .int .u64 (a 5), .int .u64 (a 6), .int .u64 (a 7)]), (.agg #[.int .u64 (b 0), .int .u64 (b 1), .int .u64 (b 2), .int .u64 (b 3), .int .u64 (b 4), .int .u64 (b 5), .int .u64 (b 6), .int .u64 (b 7)])] w fun e w' => e = .returned (.agg #[.int .u64 (andS a b 0), .int .u64 (andS a b 1), .int .u64 (andS a b 2), .int .u64 (andS a b 3), .int .u64 (andS a b 4), .int .u64 (andS a b 5), .int .u64 (andS a b 6), .int .u64 (andS a b 7)]) ∧ Below w.heap.size w w') := fun w => refMeet_any a b ha hb w
  have HE : Hid (∀ w, Calls Tryd.prog 20 #[(.agg #[.int .u64 (andS a b 0), .int .u64 (andS a b 1), .int .u64 (andS a b 2), .int .u64 (andS a b 3), .int .u64 (andS a b 4), .int .u64 (andS a b 5), .int .u64 (andS a b 6), .int .u64 (andS a b 7)])] w fun e w' => e = .returned (.bool (sigEq (andS a b) noS)) ∧ Below w.heap.size w w') := fun w => refEmpty_any _ (andS_wds ha hb) w
  clear ha hb
  generalize andS a b = g at *
  go_enter Tryd.func27, Tryd.ntmps27
  go_wp2_with fail
  refine (HM.out _).mono ?_; rintro e w1 ⟨rfl, hb1⟩
  have HB := Lib.hid hb1
  clear hb1
  go_wp2_with fail
  refine (HE.out _).mono ?_; rintro e w2 ⟨rfl, hb2⟩
  have HB2 := Lib.hid hb2
  clear hb2
  go_wp2_with fail
  go_ret
  refine ⟨rfl, (((Below.refl _ _).alloc (Nat.le_refl _) _).alloc (by simp) _).trans ((HB.out.mono (by simp; omega)).trans (((Below.refl _ _).alloc ?_ _).trans (HB2.out.mono ?_)))⟩
  · have := HB.out.size
    simp at this
    omega
  · have := HB.out.size
    simp at this ⊢
    omega
end Go.Proofs.YtcnkoiogfhggeaaDoor
