/- Layer 9: the law's own shown. -/
import Derived.Test.YtcbjbmbibnmohaaC9d
namespace Go.Proofs.Ytcbjbmbibnmohaa
open Go.RowKit
set_option linter.unusedVariables false
set_option maxHeartbeats 4000000 in
theorem shown9_any (w : World) : Calls Try.prog 6 #[] w fun e w' => e = .returned (.bool true) ∧ Below w.heap.size w w' := by
  have HN := Lib.hid (memNew_any 4 4 (by decide) (by decide) (by decide) (by decide))
  have HWD := Lib.hid (withS_wds noS_wds 3)
  have HF := Lib.hid (fetNew_any 4 0 noS noS_wds 3 (by decide) (by decide) (by decide) (by decide) (by decide))
  have HFB := Lib.hid (fetNew_bad 4 0 noS noS_wds 1024 (by decide))
  have HO : Hid (∀ w, Calls Try.prog 27 #[.slice none 0 0] w fun e w' => e = .returned (.agg #[.int .u64 (noS 0), .int .u64 (noS 1), .int .u64 (noS 2), .int .u64 (noS 3), .int .u64 (noS 4), .int .u64 (noS 5), .int .u64 (noS 6), .int .u64 (noS 7)]) ∧ Below w.heap.size w w') := fun w => of_any none 0 0 [] w ⟨rfl, .inl rfl⟩ (by decide)
  unfold FetNew at HF
  generalize hrs : withS noS 3 = rs at *
  have S1 : Hid (stepK 4 0 rs true ⟨0, 0, 0, 0, 0⟩ 0 = (⟨4, 0, 0, 0, 0⟩, 3, 0)) := by show _ = _; simp [stepK]
  clear hrs
  go_enter Try.func6, Try.ntmps6
  go_wp2_with fail
  refine (HN.out w).mono ?_
  rintro e w1 ⟨p, rfl, h⟩
  have H1 := Lib.hid h
  clear h
  go_wp2_with fail
  refine (HO.out _).mono ?_
  rintro e w2 ⟨rfl, hb⟩
  have H2 := Lib.hid (H1.out.calm (MemH.good _ _ _ _) hb)
  clear hb H1
  go_wp2_with fail
  refine (HF.out _).mono ?_
  rintro e w3 ⟨x, xc, rfl, h⟩
  have H3 : Hid (AtW w (FStep p x xc 4 4 [] 4 0 3 rs false 0 ⟨0, 0, 0, 0, 0⟩) w3) := (H2.out.new (MemH.good _ _ _ _) h).imp (fun F h => h.assocL)
  clear h H2
  go_wp2_with fail
  refine (HO.out _).mono ?_
  rintro e w4 ⟨rfl, hb⟩
  have H4 := Lib.hid (H3.out.calm (FStep.good _ _ _ _ _ _ _ _ _ _ _ _ _) hb)
  clear hb H3
  go_wp2_with fail
  refine (HFB.out _).mono ?_
  rintro e w5 ⟨rfl, hb⟩
  have H5 := Lib.hid (H4.out.calm (FStep.good _ _ _ _ _ _ _ _ _ _ _ _ _) hb)
  clear hb H4
  go_wp2_with fail
  refine ((Lifts.left (BlkH.good _ _ _) (Lifts.left (BlkH.good _ _ _) (store_in p 4 4 [] (by decide) 0 4 3 0 77 (by decide)))).at H5.out).mono ?_
  rintro e w6 ⟨rfl, h⟩
  have H6 := Lib.hid h
  clear h H5
  go_wp2_with fail
  refine ((fetStep_read p x xc 4 4 _ (by decide) 0 3 (by decide) (by decide) rs 0 ⟨0, 0, 0, 0, 0⟩ 5).at H6.out).mono ?_
  rintro e w7 ⟨rfl, h⟩
  have H7 := Lib.hid (h.box (FStep.good _ _ _ _ _ _ _ _ _ _ _ _ _) #[.int .i64 2, .int .i64 0, .int .i64 0, .bool true] 49)
  clear h H6
  unfold ansV
  go_wp2_with fail
  refine ((Lifts.left (BlkH.good _ _ _) (fetStep_done p x xc 4 4 _ _ (CStep.good _ _ _ _ _ _ _ _ _ _) 0 true 0 3 (by decide) rs 77 ⟨0, 0, 0, 0, 0⟩ 5 (chkStep_go p xc 4 4 _ (by decide) (by decide) (by decide) 0 (by decide) rs HWD.out true ⟨0, 0, 0, 0, 0⟩ 5 (.inl (.inl rfl)) 1 0 0 rfl 0 rfl ⟨by decide, by decide⟩ _ 3 0 S1.out))).at H7.out).mono ?_
  rintro e w8 ⟨rfl, h⟩
  have H8 := Lib.hid (h.box (((CStep.good _ _ _ _ _ _ _ _ _ _).star (BlkH.good _ _ _)).star (BlkH.good _ _ _)) #[.int .i64 3, .int .i64 0, .int .i64 77, .bool true] 49)
  clear h H7
  unfold ansV
  go_wp2_with fail
  refine ((Looks.left (Looks.left (Looks.pre (fun _ h => h.tail) (fetStart_any x xc 4 0 3 rs true 77 ⟨4, 0, 0, 0, 0⟩ 0 0 true (chkStart_yes xc 4 0 rs true ⟨4, 0, 0, 0, 0⟩ rfl))))).at ((((CStep.good _ _ _ _ _ _ _ _ _ _).star (BlkH.good _ _ _)).star (BlkH.good _ _ _)).star (BlkH.good _ _ _)) H8.out).mono ?_
  rintro e w9 ⟨rfl, h⟩
  have HE := Lib.hid h.below
  obtain ⟨a0, a1, a2, a3, _⟩ := four_cells h.has.right.blk
  obtain ⟨b0, b1, b2, b3, _⟩ := four_cells h.has.left.right.blk
  clear h H8
  go_wp2_with fail
  go_ret
  exact ⟨rfl, HE.out⟩
end Go.Proofs.Ytcbjbmbibnmohaa
