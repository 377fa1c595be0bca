/- Contracts of layer 2 (sig): Union, Meet. -/
import Derived.Test.YtkhppganhhmpeaaC2h
import Derived.Test.YtkhppganhhmpeaaS2b
namespace Go.Proofs.Ytkhppganhhmpeaa
open Go.RowKit
set_option linter.unusedVariables false
theorem heap3_0 (w : World) (o1 o2 o3 : Obj) : (((w.alloc o1).alloc o2).alloc o3).heap[w.heap.size]? = some o1 := by
  show (((w.heap.push o1).push o2).push o3)[w.heap.size]? = _
  simp only [Array.getElem?_push, Array.size_push]
  rw [if_neg (by omega), if_neg (by omega), if_pos trivial]
theorem heap3_1 (w : World) (o1 o2 o3 : Obj) : (((w.alloc o1).alloc o2).alloc o3).heap[w.heap.size + 1]? = some o2 := by
  show (((w.heap.push o1).push o2).push o3)[w.heap.size + 1]? = _
  simp only [Array.getElem?_push, Array.size_push]
  rw [if_neg (by omega), if_pos trivial]
theorem heap3_2 (w : World) (o1 o2 o3 : Obj) : (((w.alloc o1).alloc o2).alloc o3).heap[w.heap.size + 2]? = some o3 := by
  show (((w.heap.push o1).push o2).push o3)[w.heap.size + 2]? = _
  simp only [Array.getElem?_push, Array.size_push]
  rw [if_pos trivial]
theorem mixW_at (g a : Nat → Int) (k : Nat) : mixW g a k k = a k := by unfold mixW; rw [if_neg (by omega)]
theorem mixW_lt0 (g a : Nat → Int) : mixW g a 8 0 = g 0 := rfl
theorem mixW_lt1 (g a : Nat → Int) : mixW g a 8 1 = g 1 := rfl
theorem mixW_lt2 (g a : Nat → Int) : mixW g a 8 2 = g 2 := rfl
theorem mixW_lt3 (g a : Nat → Int) : mixW g a 8 3 = g 3 := rfl
theorem mixW_lt4 (g a : Nat → Int) : mixW g a 8 4 = g 4 := rfl
theorem mixW_lt5 (g a : Nat → Int) : mixW g a 8 5 = g 5 := rfl
theorem mixW_lt6 (g a : Nat → Int) : mixW g a 8 6 = g 6 := rfl
theorem mixW_lt7 (g a : Nat → Int) : mixW g a 8 7 = g 7 := rfl
theorem mixW_step {w : World} {b k : Nat} {g a : Nat → Int} {T : TypeId} (h : w.heap[b]? = some (.cells #[.int .u64 (mixW g a k 0), .int .u64 (mixW g a k 1), .int .u64 (mixW g a k 2), .int .u64 (mixW g a k 3), .int .u64 (mixW g a k 4), .int .u64 (mixW g a k 5), .int .u64 (mixW g a k 6), .int .u64 (mixW g a k 7)] T)) (hk : k < 8) :
    (w.setCell ⟨b, k, none⟩ (.int .u64 (g k))).heap[b]? = some (.cells #[.int .u64 (mixW g a (k + 1) 0), .int .u64 (mixW g a (k + 1) 1), .int .u64 (mixW g a (k + 1) 2), .int .u64 (mixW g a (k + 1) 3), .int .u64 (mixW g a (k + 1) 4), .int .u64 (mixW g a (k + 1) 5), .int .u64 (mixW g a (k + 1) 6), .int .u64 (mixW g a (k + 1) 7)] T) := by
  rw [heap_setCell_eq w b k _ _ T _ h]
  match k, hk with
  | 0, _ => simp [mixW]
  | 1, _ => simp [mixW]
  | 2, _ => simp [mixW]
  | 3, _ => simp [mixW]
  | 4, _ => simp [mixW]
  | 5, _ => simp [mixW]
  | 6, _ => simp [mixW]
  | 7, _ => simp [mixW]
end Go.Proofs.Ytkhppganhhmpeaa
