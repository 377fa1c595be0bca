/- Layer 8: the law's own shown. -/
import Derived.Test.YtecbnialcnplkaaG0
import Derived.Test.YtecbnialcnplkaaC8d
import Derived.Test.YtecbnialcnplkaaC2h
import Derived.Test.YtecbnialcnplkaaC3g
namespace Go.Proofs.Ytecbnialcnplkaa
open Go.RowKit
set_option linter.unusedVariables false
theorem nextW_skip {rs : Nat → Int} {b : Nat} (hb : b ≤ 8) : ∀ (n a : Nat), b - a = n → a ≤ b → (∀ i, a ≤ i → i < b → rs i = 0) → nextW rs a = nextW rs b
  | 0, a, hn, hab, h => by rw [show a = b by omega]
  | n + 1, a, hn, hab, h => by
    rw [nextW_zero (by omega) (h a (Nat.le_refl _) (by omega))]
    exact nextW_skip hb n (a + 1) (by omega) (by omega) (fun i h1 h2 => h i (by omega) h2)
theorem one_word (c : Int) : ∃ j, j < 8 ∧ nextW (ofS [c]) 0 = j ∧ nextW (ofS [c]) (j + 1) = 8 := by
  have hk := hashN_lt c
  have e : ofS [c] = putB noS (hashN c) := rfl
  refine ⟨hashN c / 64, by omega, ?_, ?_⟩
  · rw [e, nextW_skip (b := hashN c / 64) (by omega) _ 0 rfl (Nat.zero_le _) (fun i _ h2 => by rw [putB_ne _ _ _ (by omega)]; rfl)]
    refine nextW_here (by omega) ?_
    unfold putB noS
    rw [if_pos rfl]
    have hp : 2 ^ (hashN c % 64) ≠ 0 := Nat.ne_of_gt (Nat.pow_pos (by decide))
    show (((0 : Int).toNat ||| 2 ^ (hashN c % 64) : Nat) : Int) ≠ 0
    rw [show (0 : Int).toNat = 0 from rfl, Nat.zero_or]
    generalize 2 ^ (hashN c % 64) = q at hp
    omega
  · rw [e, nextW_skip (b := 8) (Nat.le_refl _) _ _ rfl (by omega) (fun i h1 h2 => by rw [putB_ne _ _ _ (by omega)]; rfl)]
    exact nextW_end _
theorem and_zero (x : Int) : bits .and .u64 (IntKind.u64.wrap 0) x = 0 := by
  have e : IntKind.u64.wrap 0 = 0 := by rw [u64_wrap]; rfl
  rw [e]
  unfold bits
  have h0 : (BitVec.ofInt IntKind.u64.bits 0 &&& BitVec.ofInt IntKind.u64.bits x) = 0#64 := BitVec.zero_and
  simp only [h0]
  rw [u64_wrap]; rfl
set_option maxHeartbeats 4000000 in
theorem shown8_any (w : World) : Calls Try.prog 7 #[] w fun e w' => e = .returned (.bool true) ∧ Below w.heap.size w w' := by
  have HN := Lib.hid (memNew_any 2 4 (by decide) (by decide) (by decide) (by decide))
  have HWD := Lib.hid (ofS_wds [2])
  obtain ⟨j, hj, hj0, hj1⟩ := one_word 2
  generalize hrs : ofS [2] = rs at *
  have HRS := Lib.hid hrs
  have HC := Lib.hid (chkNew_any 4 1 rs false (by decide) (by decide) (by decide))
  have HCB := Lib.hid (chkNew_bad 4 (-1) rs false (by decide))
  have hz : zeroS rs = false := by unfold zeroS; rw [hj0]; simp; omega
  have S1 : Hid (stepK 4 1 rs false ⟨0, 1, 0, 0, 0⟩ 2 = (⟨1, 1, 2, 2, 0⟩, 2, 0)) := by show _ = _; simp [stepK, farB, hz]
  have S2 : Hid (stepK 4 1 rs false ⟨1, 1, 2, 2, 0⟩ 1 = (⟨1, 1, 2, 2, 0⟩, 1, 0)) := by show _ = _; simp [stepK]
  have S3 : Hid (stepK 4 1 rs false ⟨1, 1, 2, 2, 0⟩ 5 = (⟨2, 2, 2, 2, (j : Nat)⟩, 2, 0)) := by show _ = _; simp [stepK, hj0]
  have S4 : Hid (stepK 4 1 rs false ⟨2, 2, 2, 2, (j : Nat)⟩ 0 = (⟨4, 2, 2, 2, 8⟩, 3, 0)) := by show _ = _; simp [stepK, and_zero, hj1]
  have HJ := Lib.hid hj
  clear hrs hj0 hj1 hz hj
  go_enter Try.func7, Try.ntmps7
  go_wp2_with fail
  refine (HN.out w).mono ?_
  rintro e w1 ⟨p, rfl, h⟩
  have H1 := Lib.hid h
  clear h
  go_wp2_with fail
  have hII : IntsAt (w1.alloc (.cells #[.int .i64 2] 3)) (some ⟨w1.heap.size, 0, none⟩) 1 [2] := ⟨rfl, .inr ⟨w1.heap.size, 0, rfl, by simp, fun i hi => by
    obtain rfl : i = 0 := by omega
    exact cell_one_new w1 (.int .i64 2) 3 0 _ rfl⟩⟩
  refine (of_any _ 1 1 [2] _ hII (by decide)).mono ?_
  rintro e w2 ⟨rfl, hb⟩
  rw [HRS.out]
  have H2 := Lib.hid ((H1.out.calm (MemH.good _ _ _ _) (((Below.refl w1.heap.size w1).alloc (Nat.le_refl _) _).trans (hb.mono (by simp)))).box (MemH.good _ _ _ _) #[.int .u64 (rs 0), .int .u64 (rs 1), .int .u64 (rs 2), .int .u64 (rs 3), .int .u64 (rs 4), .int .u64 (rs 5), .int .u64 (rs 6), .int .u64 (rs 7)] 42)
  clear hb hII H1
  go_wp2_with fail
  refine (HC.out _).mono ?_
  rintro e w3 ⟨x, rfl, h⟩
  have H3 := Lib.hid ((H2.out.new ((MemH.good _ _ _ _).star (BlkH.good _ _ _)) h).imp (fun _ h => h.swap))
  obtain ⟨d0, d1, d2, d3, d4, d5, d6, d7, dz⟩ := blk_facts (H3.out.has.right.blk)
  clear h H2
  go_wp2_with fail
  refine (HCB.out _).mono ?_
  rintro e w4 ⟨rfl, hb⟩
  have H4 := Lib.hid (H3.out.calm ((CStep.good _ _ _ _ _ _ _ _ _ _).star (BlkH.good _ _ _)) hb).fst
  clear hb H3 d0 d1 d2 d3 d4 d5 d6 d7 dz
  go_wp2_with fail
  refine ((Lifts.left (BlkH.good _ _ _) (store_in p 4 2 [] (by decide) 0 1 0 0 2 (by decide))).at H4.out).mono ?_
  rintro e w5 ⟨rfl, h⟩
  have H5 := Lib.hid h
  clear h H4
  go_wp2_with fail
  refine ((chkStep_go p x 4 2 _ (by decide) (by decide) (by decide) 1 (by decide) rs HWD.out false ⟨0, 1, 0, 0, 0⟩ 5 (.inl (.inl rfl)) 1 0 0 rfl 2 rfl ⟨by decide, by decide⟩ _ 2 0 S1.out).at H5.out).mono ?_
  rintro e w6 ⟨rfl, h⟩
  have H6 := Lib.hid (h.box (CStep.good _ _ _ _ _ _ _ _ _ _) #[.int .i64 2, .int .i64 0, .int .i64 0, .bool true] 48)
  clear h H5
  unfold ansV
  go_wp2_with fail
  refine ((Lifts.left (BlkH.good _ _ _) (chkStep_go p x 4 2 _ (by decide) (by decide) (by decide) 1 (by decide) rs HWD.out false ⟨1, 1, 2, 2, 0⟩ 5 (.inr (.inl ⟨rfl, by decide, by decide⟩)) 2 2 0 rfl 1 rfl ⟨by decide, by decide⟩ _ 1 0 S2.out)).at H6.out).mono ?_
  rintro e w7 ⟨rfl, h⟩
  have H7 := Lib.hid (h.box ((CStep.good _ _ _ _ _ _ _ _ _ _).star (BlkH.good _ _ _)) #[.int .i64 1, .int .i64 0, .int .i64 0, .bool true] 48)
  clear h H6
  unfold ansV
  go_wp2_with fail
  refine ((Lifts.left (BlkH.good _ _ _) (Lifts.left (BlkH.good _ _ _) (Lifts.left (BlkH.good _ _ _) (store_in p 4 2 _ (by simp) 0 2 2 0 5 (by decide))))).at H7.out).mono ?_
  rintro e w8 ⟨rfl, h⟩
  have H8 := Lib.hid h
  clear h H7
  go_wp2_with fail
  refine ((Lifts.left (BlkH.good _ _ _) (Lifts.left (BlkH.good _ _ _) (chkStep_go p x 4 2 _ (by simp) (by decide) (by decide) 1 (by decide) rs HWD.out false ⟨1, 1, 2, 2, 0⟩ 5 (.inr (.inl ⟨rfl, by decide, by decide⟩)) 2 2 0 rfl 5 rfl ⟨by decide, by decide⟩ _ 2 0 S3.out))).at H8.out).mono ?_
  rintro e w9 ⟨rfl, h⟩
  have H9 := Lib.hid (h.box (((CStep.good _ _ _ _ _ _ _ _ _ _).star (BlkH.good _ _ _)).star (BlkH.good _ _ _)) #[.int .i64 2, .int .i64 0, .int .i64 0, .bool true] 48)
  clear h H8
  unfold ansV
  go_wp2_with fail
  refine ((Lifts.left (BlkH.good _ _ _) (Lifts.left (BlkH.good _ _ _) (Lifts.left (BlkH.good _ _ _) (chkStep_go p x 4 2 _ (by simp) (by decide) (by decide) 1 (by decide) rs HWD.out false ⟨2, 2, 2, 2, (j : Nat)⟩ 5 (.inr (.inr ⟨rfl, ⟨by show (0 : Int) ≤ 2; decide, by show (2 : Int) ≤ 9223372036854775807; decide⟩, j, HJ.out, rfl⟩)) 3 2 j rfl 0 rfl ⟨by decide, by decide⟩ _ 3 0 S4.out)))).at H9.out).mono ?_
  rintro e w10 ⟨rfl, h⟩
  have H10 := Lib.hid (h.box ((((CStep.good _ _ _ _ _ _ _ _ _ _).star (BlkH.good _ _ _)).star (BlkH.good _ _ _)).star (BlkH.good _ _ _)) #[.int .i64 3, .int .i64 0, .int .i64 0, .bool true] 48)
  clear h H9
  unfold ansV
  go_wp2_with fail
  refine ((Looks.left (Looks.left (Looks.left (Looks.left (Looks.right (chkStart_yes x 4 1 rs false ⟨4, 2, 2, 2, 8⟩ rfl)))))).at (((((CStep.good _ _ _ _ _ _ _ _ _ _).star (BlkH.good _ _ _)).star (BlkH.good _ _ _)).star (BlkH.good _ _ _)).star (BlkH.good _ _ _)) H10.out).mono ?_
  rintro e w11 ⟨rfl, h⟩
  have HE := Lib.hid h.below
  obtain ⟨a0, a1, a2, a3, _⟩ := four_cells h.has.right.blk
  obtain ⟨b0, b1, b2, b3, _⟩ := four_cells h.has.left.right.blk
  obtain ⟨c0, c1, c2, c3, _⟩ := four_cells h.has.left.left.right.blk
  obtain ⟨d0, d1, d2, d3, _⟩ := four_cells h.has.left.left.left.right.blk
  clear h H10
  go_wp2_with fail
  go_ret
  exact ⟨rfl, HE.out⟩
end Go.Proofs.Ytecbnialcnplkaa
