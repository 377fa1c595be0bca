/- The examples at the head of layer 2's laws. -/
import Derived.Test.YtcnkoiogfhggeaaDoorC2o
namespace Go.Proofs.YtcnkoiogfhggeaaDoor
open Go.RowKit
set_option linter.unusedVariables false
theorem hash_0 : hashN 0 = 0 := by unfold hashN sigHashZ; rw [mixZ_def]; decide +kernel
theorem hash_1 : hashN 1 = 360 := by unfold hashN sigHashZ; rw [mixZ_def]; decide +kernel
theorem hash_2 : hashN 2 = 117 := by unfold hashN sigHashZ; rw [mixZ_def]; decide +kernel
theorem ex_bits (k : Nat) : bitB (ofS [0, 2, 2]) k = (decide (k = 0) || decide (k = 117)) := by
  unfold ofS
  simp only [List.foldl_cons, List.foldl_nil, withS, hash_0, hash_2, bitB_putB, bitB_noS, Bool.false_or]
  cases decide (k = 0) <;> cases decide (k = 117) <;> rfl
theorem ex_list : bitsI (ofS [0, 2, 2]) 512 = [0, 117] := by
  unfold bitsI
  have e : (List.range 512).filter (bitB (ofS [0, 2, 2])) = (List.range 512).filter (fun k => decide (k = 0) || decide (k = 117)) := by
    apply List.filter_congr
    intro k _
    exact ex_bits k
  rw [e]
  decide +kernel
theorem ex_has : hasS (ofS [0, 2, 2]) 2 = true := by unfold hasS; rw [hash_2, ex_bits]; rfl
theorem ex_not : hasS (ofS [0, 2, 2]) 1 = false := by unfold hasS; rw [hash_1, ex_bits]; rfl
set_option maxRecDepth 100000 in
set_option maxHeartbeats 2000000 in
theorem shown2_any (w : World) (hT : Tab w) : Calls Tryd.prog 10 #[] w fun e w' => e = .returned (.bool true) ∧ Below w.heap.size w w' := by
  have HT := Lib.hid hT
  clear hT
  have hW := ofS_wds [0, 2, 2]
  obtain ⟨s, HS⟩ : ∃ s, Hid (ofS [0, 2, 2] = s) := ⟨_, rfl⟩
  have HW : Hid (Wds s) := by rw [← HS.out]; exact hW
  have HB : Hid (bitsI s 512 = [0, 117]) := by rw [← HS.out]; exact ex_list
  have H2 : Hid (hasS s 2 = true) := by rw [← HS.out]; exact ex_has
  have H1 : Hid (hasS s 1 = false) := by rw [← HS.out]; exact ex_not
  clear hW
  go_enter Tryd.func10, Tryd.ntmps10
  go_wp2_with fail
  refine (of_any _ 3 3 [0, 2, 2] _ ⟨rfl, .inr ⟨w.heap.size, 0, rfl, by simp, ?_⟩⟩ (by omega)).mono ?_
  · intro i hi
    match i, hi with
    | 0, _ => simp
    | 1, _ => simp
    | 2, _ => simp
  rw [HS.out]
  rintro e w1 ⟨rfl, hb⟩
  have hb1 : Below w.heap.size w w1 := ((Below.refl _ _).alloc (Nat.le_refl _) _).trans (hb.mono (by simp))
  have HB1 := Lib.hid hb1
  have hz1 := hb1.size
  clear hb hb1
  go_wp2_with fail
  refine (bits_any s HW.out _ (HT.out.below (HB1.out.trans ((Below.refl _ _).alloc hz1 _)) HT.out.pos)).mono ?_
  rw [HB.out]
  rintro e w2 ⟨v, rfl, hown, hb2⟩
  obtain ⟨a, c, rfl, hat, hn⟩ := own_ints hown
  have hz2 := hb2.size
  simp only [World.size_alloc] at hz2
  have HA2 := Lib.hid hat
  have HX2 : Hid (w2.heap[w1.heap.size]? = some (.cells #[.int .u64 (s 0), .int .u64 (s 1), .int .u64 (s 2), .int .u64 (s 3), .int .u64 (s 4), .int .u64 (s 5), .int .u64 (s 6), .int .u64 (s 7)] 25) ∧ Below w.heap.size w w2) :=
    ⟨(hb2.block _ (by simp)).trans (heap1_0 _ _), (HB1.out.trans ((Below.refl _ _).alloc hz1 _)).trans (hb2.mono (by simp; omega))⟩
  clear hown hb2 hat hn
  obtain ⟨c0, c1, c2, c3, c4, c5, c6, c7, fz⟩ := blk_facts HX2.out.1
  go_wp2_with fail
  refine (has_any s HW.out 2 _).mono ?_
  rw [H2.out]
  rintro e w3 ⟨rfl, hb3⟩
  have hz3 := hb3.size
  have HA3 := Lib.hid (HA2.out.below hb3)
  have HX3 : Hid (w3.heap[w1.heap.size]? = some (.cells #[.int .u64 (s 0), .int .u64 (s 1), .int .u64 (s 2), .int .u64 (s 3), .int .u64 (s 4), .int .u64 (s 5), .int .u64 (s 6), .int .u64 (s 7)] 25) ∧ Below w.heap.size w w3) :=
    ⟨(hb3.block _ (by omega)).trans HX2.out.1, HX2.out.2.trans (hb3.mono (by omega))⟩
  clear hb3 c0 c1 c2 c3 c4 c5 c6 c7 fz HX2 HA2
  obtain ⟨c0, c1, c2, c3, c4, c5, c6, c7, fz⟩ := blk_facts HX3.out.1
  go_wp2_with fail
  refine (has_any s HW.out 1 _).mono ?_
  rw [H1.out]
  rintro e w4 ⟨rfl, hb3⟩
  have hz4 := hb3.size
  have HA4 := Lib.hid (HA3.out.below hb3)
  have HX4 : Hid (w4.heap[w1.heap.size]? = some (.cells #[.int .u64 (s 0), .int .u64 (s 1), .int .u64 (s 2), .int .u64 (s 3), .int .u64 (s 4), .int .u64 (s 5), .int .u64 (s 6), .int .u64 (s 7)] 25) ∧ Below w.heap.size w w4) :=
    ⟨(hb3.block _ (by omega)).trans HX3.out.1, HX3.out.2.trans (hb3.mono (by omega))⟩
  clear hb3 c0 c1 c2 c3 c4 c5 c6 c7 fz HX3 HA3
  obtain ⟨c0, c1, c2, c3, c4, c5, c6, c7, fz⟩ := blk_facts HX4.out.1
  go_wp2_with fail
  refine (text_any s HW.out _).mono ?_
  rintro e w5 ⟨rfl, hb3⟩
  have hz5 := hb3.size
  have HA5 := Lib.hid (HA4.out.below hb3)
  have HX5 : Hid (Below w.heap.size w w5) := HX4.out.2.trans (hb3.mono (by omega))
  clear hb3 c0 c1 c2 c3 c4 c5 c6 c7 fz HX4 HA4
  have hsz : (strOfNums (textL s 8)).size = 128 := by rw [strOfNums_size, textL_length]
  go_wp2_with fail
  refine (ints_any a _ 2 2 c 2 [0, 117] [0, 117] _ (HA5.out.below ((Below.refl _ _).alloc (Nat.le_refl _) _)) ⟨rfl, .inr ⟨w5.heap.size, 0, rfl, by simp, ?_⟩⟩ (by omega) (by omega)).mono ?_
  · intro i hi
    match i, hi with
    | 0, _ => simp
    | 1, _ => simp
  rintro e w6 ⟨rfl, hb6⟩
  have HB6 := Lib.hid hb6
  clear hb6
  go_wp2_with fail
  go_ret
  exact ⟨ret_bool (by simp), (HX5.out.trans ((Below.refl _ _).alloc (by omega) _)).trans (HB6.out.mono (by simp; omega))⟩
end Go.Proofs.YtcnkoiogfhggeaaDoor
