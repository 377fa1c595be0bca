/- Layer 8: the program's Step, at the newest stamp and at a head. -/
import Derived.Test.YtecbnialcnplkaaC8c
namespace Go.Proofs.Ytecbnialcnplkaa
open Go.RowKit
set_option linter.unusedVariables false
set_option maxHeartbeats 2000000 in
theorem chkStep_none (p x ring cells : Nat) (l : List Acc) (size : Nat) (fr : Int) (rs : Nat → Int) (last : Bool) (s : CS) (th : Int) (hn : ring ≠ size ∨ 4 ≤ s.st) :
    Looks Try.prog 13 #[.pointer (some ⟨x, 0, none⟩), .pointer (some ⟨p, 0, none⟩), .int .i64 th] (CStep p x ring cells l size fr rs last s) (.returned (ansV 0 0 0 false)) := by
  rintro w F hO
  have H0 := Lib.hid ((Stp.refl hO).box (CStep.good _ _ _ _ _ _ _ _ _ _) #[.int .i64 0, .int .i64 0, .int .i64 0, .bool false] 48)
  have HG := Lib.hid ((CStep.good p x ring cells l size fr rs last s).star (BlkH.good w.heap.size #[.int .i64 0, .int .i64 0, .int .i64 0, .bool false] 48))
  have HS := Lib.hid (Looks.left (B := BlkH w.heap.size #[.int .i64 0, .int .i64 0, .int .i64 0, .bool false] 48) (Looks.left (B := ChkH x size fr rs last s) (sizes_any p ring cells l)))
  have hsz : Hid (w.heap.size ≤ (w.alloc (.cells #[.int .i64 0, .int .i64 0, .int .i64 0, .bool false] 48)).heap.size ∧ Below w.heap.size w (w.alloc (.cells #[.int .i64 0, .int .i64 0, .int .i64 0, .bool false] 48))) := ⟨by simp, (Below.refl _ _).alloc (Nat.le_refl _) _⟩
  clear hO
  go_enter Try.func13, Try.ntmps13
  go_wp2_with fail
  obtain ⟨F1, hF1⟩ := H0.out.has
  have H1' := HS.out _ F1 hF1
  refine H1'.mono ?_
  rintro e w1 ⟨rfl, hb⟩
  have HB : Hid (Below w.heap.size w w1) := hsz.out.2.trans (hb.mono hsz.out.1)
  have H1 := H0.out.below HG.out hb
  obtain ⟨c0, c1, rd, c10, c11, c12, c13, c14, c15, fz⟩ := chk_cells H1.has.left.right.blk
  obtain ⟨r0, r1, r2, r3, rz⟩ := four_cells H1.has.right.blk
  clear hb H1 H1' hF1 H0 HS HG hsz rd
  by_cases hr : ring = size
  · have hst : 4 ≤ s.st := hn.resolve_left (fun h => h hr)
    subst hr
    have e1 : ((ring : Int) != (ring : Int)) = false := by simp
    clear hn
    go_wp2_with fail
    refine bodyPost_ret (v := _) (by simp [results, Try.results13, go_sem, r0, r1, r2, r3]; rfl) rfl ?_
    exact ⟨rfl, (((HB.out.setCell (Nat.le_refl _) _).setCell (Nat.le_refl _) _).setCell (Nat.le_refl _) _).setCell (Nat.le_refl _) _⟩
  · have e1 : ((ring : Int) != (size : Int)) = true := by simp; omega
    clear hn hr
    go_wp2_with fail
    refine bodyPost_ret (v := _) (by simp [results, Try.results13, go_sem, r0, r1, r2, r3]; rfl) rfl ?_
    exact ⟨rfl, (((HB.out.setCell (Nat.le_refl _) _).setCell (Nat.le_refl _) _).setCell (Nat.le_refl _) _).setCell (Nat.le_refl _) _⟩
set_option maxHeartbeats 2000000 in
theorem chkStep_first (p x ring cells : Nat) (l : List Acc) (Ox : HP) (gO : Good Ox) (kd er : Int) (fr : Int) (rs : Nat → Int) (last : Bool) (s : CS) (th : Int) (hst : s.st = 0) (hL : Lifts Try.prog 33 #[.pointer (some ⟨x, 0, none⟩), .pointer (some ⟨p, 0, none⟩), .int .i64 th] (CStep p x ring cells l ring fr rs last s) Ox (.returned (ansV kd er 0 true))) :
    Lifts Try.prog 13 #[.pointer (some ⟨x, 0, none⟩), .pointer (some ⟨p, 0, none⟩), .int .i64 th] (CStep p x ring cells l ring fr rs last s) Ox (.returned (ansV kd er 0 true)) := by
  rintro w F hO
  have hxlt : x < w.heap.size := by
    obtain ⟨_, _, _, hx, _⟩ := hO
    exact heap_lt hx.1
  have hne : x ≠ w.heap.size := by omega
  have hne2 : w.heap.size ≠ x := by omega
  have GR := Lib.hid (BlkH.good w.heap.size #[.int .i64 0, .int .i64 0, .int .i64 0, .bool false] 48)
  have GMX := Lib.hid (CStep.good p x ring cells l ring fr rs last s)
  have H0 := Lib.hid ((Stp.refl hO).box GMX.out #[.int .i64 0, .int .i64 0, .int .i64 0, .bool false] 48)
  have HS := Lib.hid (Looks.left (B := BlkH w.heap.size #[.int .i64 0, .int .i64 0, .int .i64 0, .bool false] 48) (Looks.left (B := ChkH x ring fr rs last s) (sizes_any p ring cells l)))
  have e1 : ((ring : Int) != (ring : Int)) = false := by simp
  clear hO
  go_enter Try.func13, Try.ntmps13
  go_wp2_with fail
  refine (Stp.look (GMX.out.star GR.out) HS.out H0.out).mono ?_
  rintro e w1 ⟨rfl, h1⟩
  have H1 := Lib.hid h1
  obtain ⟨c0, c1, rd, c10, c11, c12, c13, c14, c15, fz⟩ := chk_cells h1.has.left.right.blk
  rw [hst] at c11
  clear h1 H0 HS rd
  go_wp2_with fail
  refine (Stp.lift (Lifts.left GR.out hL) H1.out).mono ?_
  rintro e w9 ⟨rfl, h9⟩
  have H9 := Lib.hid h9
  obtain ⟨r0, r1, r2, r3, rz⟩ := four_cells h9.has.right.blk
  clear h9
  unfold ansV
  go_wp2_with fail
  refine bodyPost_ret (v := _) (by simp [results, Try.results13, go_sem, r0, r1, r2, r3]; rfl) rfl ?_
  exact ⟨rfl, (((((H9.out).move (Moves.right gO (BlkH.set 0 _))).move (Moves.right gO (BlkH.set 1 _))).move (Moves.right gO (BlkH.set 2 _))).move (Moves.right gO (BlkH.set 3 _))).fst⟩
set_option maxHeartbeats 2000000 in
theorem chkStep_head (p x ring cells : Nat) (l : List Acc) (Ox : HP) (gO : Good Ox) (kd er : Int) (fr : Int) (rs : Nat → Int) (last : Bool) (s : CS) (th : Int) (hst : s.st = 1) (hL : Lifts Try.prog 34 #[.pointer (some ⟨x, 0, none⟩), .pointer (some ⟨p, 0, none⟩), .int .i64 th] (CStep p x ring cells l ring fr rs last s) Ox (.returned (ansV kd er 0 true))) :
    Lifts Try.prog 13 #[.pointer (some ⟨x, 0, none⟩), .pointer (some ⟨p, 0, none⟩), .int .i64 th] (CStep p x ring cells l ring fr rs last s) Ox (.returned (ansV kd er 0 true)) := by
  rintro w F hO
  have hxlt : x < w.heap.size := by
    obtain ⟨_, _, _, hx, _⟩ := hO
    exact heap_lt hx.1
  have hne : x ≠ w.heap.size := by omega
  have hne2 : w.heap.size ≠ x := by omega
  have GR := Lib.hid (BlkH.good w.heap.size #[.int .i64 0, .int .i64 0, .int .i64 0, .bool false] 48)
  have GMX := Lib.hid (CStep.good p x ring cells l ring fr rs last s)
  have H0 := Lib.hid ((Stp.refl hO).box GMX.out #[.int .i64 0, .int .i64 0, .int .i64 0, .bool false] 48)
  have HS := Lib.hid (Looks.left (B := BlkH w.heap.size #[.int .i64 0, .int .i64 0, .int .i64 0, .bool false] 48) (Looks.left (B := ChkH x ring fr rs last s) (sizes_any p ring cells l)))
  have e1 : ((ring : Int) != (ring : Int)) = false := by simp
  clear hO
  go_enter Try.func13, Try.ntmps13
  go_wp2_with fail
  refine (Stp.look (GMX.out.star GR.out) HS.out H0.out).mono ?_
  rintro e w1 ⟨rfl, h1⟩
  have H1 := Lib.hid h1
  obtain ⟨c0, c1, rd, c10, c11, c12, c13, c14, c15, fz⟩ := chk_cells h1.has.left.right.blk
  rw [hst] at c11
  clear h1 H0 HS rd
  go_wp2_with fail
  refine (Stp.lift (Lifts.left GR.out hL) H1.out).mono ?_
  rintro e w9 ⟨rfl, h9⟩
  have H9 := Lib.hid h9
  obtain ⟨r0, r1, r2, r3, rz⟩ := four_cells h9.has.right.blk
  clear h9
  unfold ansV
  go_wp2_with fail
  refine bodyPost_ret (v := _) (by simp [results, Try.results13, go_sem, r0, r1, r2, r3]; rfl) rfl ?_
  exact ⟨rfl, (((((H9.out).move (Moves.right gO (BlkH.set 0 _))).move (Moves.right gO (BlkH.set 1 _))).move (Moves.right gO (BlkH.set 2 _))).move (Moves.right gO (BlkH.set 3 _))).fst⟩
end Go.Proofs.Ytecbnialcnplkaa
