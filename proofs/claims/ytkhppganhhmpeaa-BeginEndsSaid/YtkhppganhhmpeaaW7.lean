/- Layer 7: the law's own shown. -/
import Derived.Test.YtkhppganhhmpeaaG0
import Derived.Test.YtkhppganhhmpeaaC7c
namespace Go.Proofs.Ytkhppganhhmpeaa
open Go.RowKit
set_option linter.unusedVariables false
set_option maxHeartbeats 4000000 in
theorem shown7_any (w : World) : Calls Try.prog 8 #[] w fun e w' => e = .returned (.bool true) ∧ Below w.heap.size w w' := by
  have HN := Lib.hid (memNew_any 2 4 (by decide) (by decide) (by decide) (by decide))
  have HB := Lib.hid (begNew_any 4 (by decide) (by decide))
  go_enter Try.func8, Try.ntmps8
  go_wp2_with fail
  refine (HN.out w).mono ?_
  rintro e w1 ⟨p, rfl, h⟩
  have H1 := Lib.hid h
  clear h
  go_wp2_with fail
  refine (HB.out w1).mono ?_
  rintro e w2 ⟨x, rfl, h⟩
  have H2 := Lib.hid (H1.out.new (MemH.good _ _ _ _) h)
  clear h H1
  go_wp2_with fail
  refine (begNew_bad 17 (by decide) w2).mono ?_
  rintro e w' ⟨rfl, rfl⟩
  go_wp2_with fail
  refine ((Lifts.left (BlkH.good _ _ _) (store_in p 4 2 [] (by decide) 0 1 0 0 2 (by decide))).at H2.out).mono ?_
  rintro e w3 ⟨rfl, h⟩
  have H3 := Lib.hid h
  clear h H2
  go_wp2_with fail
  refine ((Lifts.left (BlkH.good _ _ _) (store_in p 4 2 _ (by decide) 0 2 2 0 0 (by decide))).at H3.out).mono ?_
  rintro e w4 ⟨rfl, h⟩
  have H4 := Lib.hid h
  clear h H3
  go_wp2_with fail
  refine ((Lifts.left (BlkH.good _ _ _) (store_in p 4 2 _ (by decide) 0 2 1 0 3 (by decide))).at H4.out).mono ?_
  rintro e w5 ⟨rfl, h⟩
  have H5 := Lib.hid h
  clear h H4
  go_wp2_with fail
  refine ((begStep_go p x 4 2 _ (by decide) 0 0 0 5 (by decide) (by decide) (.inl rfl) 1 0 0 rfl 2 rfl 1 2 2 2 rfl).at H5.out).mono ?_
  rintro e w6 ⟨rfl, h⟩
  have H6 := Lib.hid (h.box (BStep.good _ _ _ _ _ _ _ _ _) #[.int .i64 2, .int .i64 0, .int .i64 0, .bool true] 38)
  clear h H5
  unfold ansV
  go_wp2_with fail
  refine ((Lifts.left (BlkH.good _ _ _) (begStep_go p x 4 2 _ (by decide) 1 2 2 5 (by decide) (by decide) (.inr ⟨rfl, by decide, by decide, by decide⟩) 2 2 0 rfl 0 rfl 1 2 1 2 rfl)).at H6.out).mono ?_
  rintro e w7 ⟨rfl, h⟩
  have H7 := Lib.hid (h.box ((BStep.good _ _ _ _ _ _ _ _ _).star (BlkH.good _ _ _)) #[.int .i64 2, .int .i64 0, .int .i64 0, .bool true] 38)
  clear h H6
  unfold ansV
  go_wp2_with fail
  refine ((Lifts.left (BlkH.good _ _ _) (Lifts.left (BlkH.good _ _ _) (begStep_go p x 4 2 _ (by decide) 1 2 1 5 (by decide) (by decide) (.inr ⟨rfl, by decide, by decide, by decide⟩) 2 1 0 rfl 3 rfl 2 2 1 3 rfl))).at H7.out).mono ?_
  rintro e w8 ⟨rfl, h⟩
  have H8 := Lib.hid (h.box (((BStep.good _ _ _ _ _ _ _ _ _).star (BlkH.good _ _ _)).star (BlkH.good _ _ _)) #[.int .i64 3, .int .i64 0, .int .i64 0, .bool true] 38)
  clear h H7
  unfold ansV
  go_wp2_with fail
  refine ((Looks.left (Looks.left (Looks.left (begStep_none p x 4 2 _ 4 2 2 1 5 (.inr rfl))))).at ((((BStep.good _ _ _ _ _ _ _ _ _).star (BlkH.good _ _ _)).star (BlkH.good _ _ _)).star (BlkH.good _ _ _)) H8.out).mono ?_
  rintro e w9 ⟨rfl, h⟩
  have H9 := Lib.hid (h.box ((((BStep.good _ _ _ _ _ _ _ _ _).star (BlkH.good _ _ _)).star (BlkH.good _ _ _)).star (BlkH.good _ _ _)) #[.int .i64 0, .int .i64 0, .int .i64 0, .bool false] 38)
  clear h H8
  unfold ansV
  go_wp2_with fail
  refine ((Looks.left (Looks.left (Looks.left (Looks.left (Looks.right (begStart_yes x 4 2 1)))))).at (((((BStep.good _ _ _ _ _ _ _ _ _).star (BlkH.good _ _ _)).star (BlkH.good _ _ _)).star (BlkH.good _ _ _)).star (BlkH.good _ _ _)) H9.out).mono ?_
  rintro e w10 ⟨rfl, h⟩
  have HE := Lib.hid h.below
  obtain ⟨a0, a1, a2, a3, _⟩ := four_cells h.has.right.blk
  obtain ⟨b0, b1, b2, b3, _⟩ := four_cells h.has.left.right.blk
  obtain ⟨c0, c1, c2, c3, _⟩ := four_cells h.has.left.left.right.blk
  obtain ⟨d0, d1, d2, d3, _⟩ := four_cells h.has.left.left.left.right.blk
  clear h H9
  go_wp2_with fail
  go_ret
  exact ⟨rfl, HE.out⟩
end Go.Proofs.Ytkhppganhhmpeaa
