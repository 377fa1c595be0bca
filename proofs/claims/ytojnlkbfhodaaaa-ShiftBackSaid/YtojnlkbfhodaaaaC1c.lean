/- Contracts of layer 1, third part: Lay, by the program and by the reference. -/
import Derived.Test.YtojnlkbfhodaaaaC1b
import Derived.Test.YtojnlkbfhodaaaaS1b
import Derived.Below
import Derived.OwnWalk
import Derived.Laws.BytesArg
namespace Go.Proofs.Ytojnlkbfhodaaaa
open Go.RowKit
set_option linter.unusedVariables false
theorem sized_any (n : Int) (w : World) :
    Calls Try.prog 51 #[.int .i64 n] w fun e w' => e = .returned (.bool (n == 1 || n == 2 || n == 4 || n == 8)) ∧ w = w' := by
  go_enter Try.func51, Try.ntmps51
  go_wp2
  all_goals
    go_ret
    exact ⟨ret_bool (by simp_all), rfl⟩
theorem sized_yes (n : Int) (hn : n = 1 ∨ n = 2 ∨ n = 4 ∨ n = 8) (w : World) :
    Calls Try.prog 51 #[.int .i64 n] w fun e w' => e = .returned (.bool true) ∧ w = w' :=
  (sized_any n w).mono fun e w' ⟨h, hw⟩ => ⟨h.trans (ret_bool (by rcases hn with rfl | rfl | rfl | rfl <;> rfl)), hw⟩
theorem sized_no (n : Int) (hn : ¬ (n = 1 ∨ n = 2 ∨ n = 4 ∨ n = 8)) (w : World) :
    Calls Try.prog 51 #[.int .i64 n] w fun e w' => e = .returned (.bool false) ∧ w = w' :=
  (sized_any n w).mono fun e w' ⟨h, hw⟩ => ⟨h.trans (ret_bool (by simp; omega)), hw⟩
theorem refSized_any (n : Int) (w : World) :
    Calls Try.prog 52 #[.int .i64 n] w fun e w' => e = .returned (.bool (n == 1 || n == 2 || n == 4 || n == 8)) ∧ w = w' := by
  go_enter Try.func52, Try.ntmps52
  go_wp2
  all_goals
    go_ret
    exact ⟨ret_bool (by simp_all), rfl⟩
theorem refSized_yes (n : Int) (hn : n = 1 ∨ n = 2 ∨ n = 4 ∨ n = 8) (w : World) :
    Calls Try.prog 52 #[.int .i64 n] w fun e w' => e = .returned (.bool true) ∧ w = w' :=
  (refSized_any n w).mono fun e w' ⟨h, hw⟩ => ⟨h.trans (ret_bool (by rcases hn with rfl | rfl | rfl | rfl <;> rfl)), hw⟩
theorem refSized_no (n : Int) (hn : ¬ (n = 1 ∨ n = 2 ∨ n = 4 ∨ n = 8)) (w : World) :
    Calls Try.prog 52 #[.int .i64 n] w fun e w' => e = .returned (.bool false) ∧ w = w' :=
  (refSized_any n w).mono fun e w' ⟨h, hw⟩ => ⟨h.trans (ret_bool (by simp; omega)), hw⟩
theorem infoU8 : (Try.prog.info? 5).map (fun i => (i.zero, i.size, i.bytes)) = some (some (.int .u8 0), 1, 1) := by kernel_rfl
/-- What an owned row of bytes reads as a string. -/
theorem conv_own {w : World} {B : Nat} {v : Value} {n : Nat} {xs : List Int} (h : w.ownsRow B 5 1 v n (xs.map (Value.int .u8))) (hn : 0 < n) :
    ∃ g cap, v = .slice (some ⟨g, 0, none⟩) n cap ∧ (convert 57 9 (.slice (some ⟨g, 0, none⟩) n cap)).run Try.prog w = .ok (.string (strOfNums xs)) w := by
  obtain ⟨hl, h2⟩ := h
  rcases h2 with ⟨_, h0⟩ | ⟨g, cap, cur, hv, hB, hg, hnc, hcm, hcs, htake⟩
  · omega
  · refine ⟨g, cap, hv, run_convert_bytes_arg w 57 5 Try.underlying57 Try.underlying5 g 0 n cap xs (by simpa using hl) ?_ 9 Try.underlying9⟩
    intro i hi
    have hlen : xs.length = n := by simpa using hl
    have hi' : i < (xs.map (Value.int .u8)).length := by simpa [hlen] using hi
    have e := cell_of_row w g (0 + i) cur 5 (0, 0) hg
    rw [e]
    have : (cur.toList.take (n * 1))[i]? = some ((xs.map (Value.int .u8))[i]) := by rw [htake]; exact List.getElem?_eq_getElem hi'
    rw [List.getElem?_take, if_pos (by omega)] at this
    simp only [Nat.zero_add]
    have h3 : cur[i]? = some (Value.int .u8 (xs[i]'(by omega))) := by simpa using this
    rw [h3]
    simp [List.getD, List.getElem?_eq_getElem (show i < xs.length by omega)]
set_option maxHeartbeats 1000000 in
theorem lay_any (x n : Int) (hn : n = 1 ∨ n = 2 ∨ n = 4 ∨ n = 8) (w : World) :
    Calls Try.prog 41 #[.int .i64 x, .int .i64 n] w fun e w' => e = .returned (.tuple #[.string (strOfNums (layL x n.toNat)), .int .i64 0]) ∧ Below w.heap.size w w' := by
  obtain ⟨i0, hi, hz0, hz1, hz2⟩ := info_parts infoU8
  have hn1 : 1 ≤ n := by omega
  have hn2 : n ≤ 8 := by omega
  have HN := Lib.hid hn
  clear hn
  go_enter Try.func41, Try.ntmps41
  go_wp2_with (go_at_call 51; refine (sized_yes n HN.out _).mono ?_; rintro e w' ⟨rfl, rfl⟩)
  go_loopw [6, 12] (fun v i wr => ∃ k : Nat, (k : Int) ≤ n ∧ i = .int .i64 k ∧ wr.ownsRow w.heap.size 5 1 v k ((layL x k).map (Value.int .u8)) ∧ Below w.heap.size w wr) (fun _ i _ => n.toNat - (intOf i).toNat)
  case atStart => exact ⟨0, by omega, rfl, World.ownsRow_nil _ _ _ _, Below.refl _ _⟩
  case round =>
    obtain ⟨k, hk, rfl, hown, hbel⟩ := hrel
    have hsz := hbel.size
    by_cases hlt : (k : Int) < n
    · go_wp2_with (at_builtin; refine wpList_append_own _ rfl (.tmp 15) (.tmp 21) 57 rfl w.heap.size 5 i0 (.int .u8 0) 1 1 Try.underlying57 hi hz0 hz1 hz2 rfl (by decide) _ _ _ rfl (hown.alloc _) ⟨wr.heap.size, 0, none⟩ 1 1 [.int .u8 (x / 2 ^ (8 * k) % 256)] rfl rfl ?c1 ?c2 ?c3 ?c4 ?c5 ?_)
      case c1 => exact cell_one_new _ _ _
      case c2 => intro u hu; simp at hu; subst hu; rfl
      case c3 => unfold maxLen; omega
      case c4 => omega
      case c5 => simp; omega
      · intro v' w1 hown' hgrow _
        have hbel' : Below w.heap.size w w1 := (hbel.alloc hsz _).grown hgrow (by simp; omega) (fun j hj => (hown.lt j hj).1)
        have ho : w1.ownsRow w.heap.size 5 1 v' (k + 1) ((layL x (k + 1)).map (Value.int .u8)) := by rw [layL_succ]; simpa using hown'
        clear hown' hown hgrow
        go_wp2
        go_roundw
        case rel => exact ⟨k + 1, by omega, by go_num, ho, hbel'⟩
        case measure => simp [intOf]; omega
    · obtain rfl : n = (k : Int) := by omega
      obtain ⟨g, cap, rfl, hconv⟩ := conv_own hown (by omega)
      go_wp2
      go_ret2
      exact ⟨by simp, hbel⟩
theorem lay_no (x n : Int) (hn : ¬ (n = 1 ∨ n = 2 ∨ n = 4 ∨ n = 8)) (w : World) :
    Calls Try.prog 41 #[.int .i64 x, .int .i64 n] w fun e w' => e = .returned (.tuple #[.string ByteArray.empty, .int .i64 1]) ∧ w = w' := by
  have HN := Lib.hid hn
  clear hn
  go_enter Try.func41, Try.ntmps41
  go_wp2_with (go_at_call 51; refine (sized_no n HN.out _).mono ?_; rintro e w' ⟨rfl, rfl⟩)
  go_ret2
  exact ⟨rfl, rfl⟩
end Go.Proofs.Ytojnlkbfhodaaaa
