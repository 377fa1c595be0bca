/- Layer 10: Peek; New refuses; the law's own shown. -/
import Derived.Test.YtojkeahffabifaaC3b
import Derived.Test.YtojkeahffabifaaC10
import Derived.Test.YtojkeahffabifaaG0
import Derived.Test.YtojkeahffabifaaC10e
namespace Go.Proofs.Ytojkeahffabifaa
open Go.RowKit
set_option linter.unusedVariables false
set_option maxHeartbeats 2000000 in
set_option maxRecDepth 100000 in
theorem peek_in (p ring cells : Nat) (l : List Acc) (k i j : Int) (ha : isA ring cells k i j) :
    Looks Try.prog 15 #[.pointer (some ⟨p, 0, none⟩), .agg #[.int .i64 k, .int .i64 i, .int .i64 j]] (MemH p ring cells l) (.returned (.tuple #[.int .i64 (wordOf l k i j), .int .i64 0])) := by
  rintro w F ⟨hv, sv, cv, lv, h1, h2, h3, h4⟩
  have H1 := Lib.hid h1
  have H3 := Lib.hid h3
  have HA := Lib.hid ha
  clear h1 h2 h3 h4 ha
  go_enter Try.func15, Try.ntmps15
  go_wp2_with fail
  have hb0 : Below w.heap.size w (w.alloc (.cells #[.int .i64 k, .int .i64 i, .int .i64 j] 59)) := (Below.refl _ _).alloc (Nat.le_refl _) _
  refine (word_in _ p ring cells (wordOf l) hv sv cv _ (H1.out.calm hb0) k i j HA.out).mono ?_
  rintro e w1 ⟨⟨g, o, rfl, hpl⟩, hb1⟩
  have hb : Hid (Below w.heap.size w w1) := hb0.trans (hb1.mono (by simp))
  have hM := H1.out.calm hb.out
  obtain ⟨hcell, hfz, _⟩ := place_facts hM H3.out HA.out hpl
  generalize hV : wordOf l k i j = v at *
  have HV := Lib.hid hV
  clear hb0 hb1 hM hpl hV
  go_wp2_with fail
  go_ret2
  rw [HV.out]
  exact ⟨rfl, hb.out⟩
end Go.Proofs.Ytojkeahffabifaa
namespace Go.Proofs.Ytojkeahffabifaa
open Go.RowKit
set_option linter.unusedVariables false
set_option maxRecDepth 100000 in
theorem comNew_bad (c0 n c2 last : Int) (mu : Bool) (c5 : Int) (c6 : Value) (fr : Int) (rs : Nat → Int) (h : ¬ (((1 ≤ n ∧ n ≤ 16) ∧ 0 ≤ fr) ∧ 1 ≤ last ∧ last ≤ 1099511627776)) (w : World) :
    Calls Try.prog 11 #[.agg #[.int .i64 c0, .int .i64 n, .int .i64 c2, .int .i64 last, .bool mu, .int .i64 c5, c6], .int .i64 fr, (.agg #[.int .u64 (rs 0), .int .u64 (rs 1), .int .u64 (rs 2), .int .u64 (rs 3), .int .u64 (rs 4), .int .u64 (rs 5), .int .u64 (rs 6), .int .u64 (rs 7)])] w fun e w' => e = .returned (.tuple #[.pointer none, .int .i64 1]) ∧ Below w.heap.size w w' := by
  have HB2 : Hid (∀ a b, Below w.heap.size w ((w.alloc a).alloc b)) := fun a b => ((Below.refl _ _).alloc (Nat.le_refl _) _).alloc (by simp) _
  have HBX0 : Hid (∀ (wb : World) a b, Below ((w.alloc a).alloc b).heap.size ((w.alloc a).alloc b) wb → wb.heap[w.heap.size]? = some a ∧ wb.heap[w.heap.size + 1]? = some b) := fun wb a b hb => ⟨(hb.block _ (by simp; omega)).trans (heapAlloc_old (heapAlloc w a) b), (hb.block _ (by simp)).trans (by
    have h := heapAlloc (w.alloc a) b
    rwa [World.size_alloc] at h)⟩
  by_cases hn : (1 ≤ n ∧ n ≤ 16) ∧ 0 ≤ fr
  · have HC := Lib.hid (chkNew_any n fr rs false hn.1.1 hn.1.2 hn.2)
    have hc : last < 1 ∨ (¬ last < 1 ∧ 1099511627776 < last) := by omega
    clear hn h
    rcases hc with hc | ⟨hc, hc2⟩
    all_goals
      go_enter Try.func11, Try.ntmps11
      go_wp2_with fail
      refine (HC.out _).mono ?_; rintro e w2 ⟨xc, rfl, h⟩
      obtain ⟨hx1, hx2⟩ := HBX0.out _ _ _ h.below
      have H2 := Lib.hid (h.up (HB2.out _ _)).below
      obtain ⟨g0, g1, g2, g3, g4, g5, g6, gz⟩ := cfg_cells hx1
      clear h hx1 hx2 HB2 HBX0 HC
      go_wp2_with fail
      go_ret2
      exact ⟨rfl, H2.out⟩
  · have HC := Lib.hid (chkNew_bad n fr rs false hn)
    clear hn h
    go_enter Try.func11, Try.ntmps11
    go_wp2_with fail
    refine (HC.out _).mono ?_; rintro e w2 ⟨rfl, hb⟩
    have H2 := Lib.hid ((HB2.out _ _).trans (hb.mono (by simp; omega)))
    clear hb HB2 HBX0 HC
    go_wp2_with fail
    go_ret2
    exact ⟨rfl, H2.out⟩
end Go.Proofs.Ytojkeahffabifaa
namespace Go.Proofs.Ytojkeahffabifaa
open Go.RowKit
set_option linter.unusedVariables false
theorem star_as {A B C : HP} {w : World} {F : Nat → Prop} (h : Star A (Star B C) w F) : Star (Star A B) C w F := by
  obtain ⟨FA, FB, ha, ⟨FC, FD, hc, hd, k1, k2⟩, h1, h2⟩ := h
  refine ⟨fun b => FA b ∨ FC b, FD, ⟨FA, FC, ha, hc, fun _ => Iff.rfl, fun b q r => h2 b q ((k1 b).2 (.inl r))⟩, hd, fun b => ?_, fun b q r => ?_⟩
  · rw [h1 b, k1 b, or_assoc]
  · rcases q with q | q
    · exact h2 b q ((k1 b).2 (.inr r))
    · exact k2 b q r
set_option maxHeartbeats 4000000 in
theorem shown10_any (w : World) : Calls Try.prog 6 #[] w fun e w' => e = .returned (.bool true) ∧ Below w.heap.size w w' := by
  have HN := Lib.hid (memNew_any 4 4 (by decide) (by decide) (by decide) (by decide))
  obtain ⟨rs, hrs⟩ : ∃ rs : Nat → Int, rs = fun _ => 0 := ⟨_, rfl⟩
  have hz : zeroS rs = true := by rw [hrs]; kernel_rfl
  have hwd : Wds rs := by rw [hrs]; intro j; simp
  have S1 : Hid (stepK 4 0 rs false ⟨0, 0, 0, 0, 0⟩ 0 = (⟨4, 0, 0, 0, 0⟩, 3, 0)) := by show _ = _; simp [stepK, hz]
  have z0 : rs 0 = 0 := by rw [hrs]
  have HWD := Lib.hid hwd
  have HC := Lib.hid (fun c5 c6 => comNew_any 0 4 0 9 false c5 c6 0 rs (by decide) (by decide) (by decide) (by decide) (by decide))
  have HCB := Lib.hid (fun c5 c6 => comNew_bad 0 4 0 0 false c5 c6 0 rs (by decide))
  have e8 : rs 0 = 0 ∧ rs 1 = 0 ∧ rs 2 = 0 ∧ rs 3 = 0 ∧ rs 4 = 0 ∧ rs 5 = 0 ∧ rs 6 = 0 ∧ rs 7 = 0 := by rw [hrs]; simp
  obtain ⟨q0, q1, q2, q3, q4, q5, q6, q7⟩ := e8
  rw [q0, q1, q2, q3, q4, q5, q6, q7] at HC HCB
  clear q0 q1 q2 q3 q4 q5 q6 q7 z0 hz hwd hrs
  go_enter Try.func6, Try.ntmps6
  go_wp2_with fail
  refine (HN.out w).mono ?_
  rintro e w1 ⟨p, rfl, h⟩
  have H1 := Lib.hid h
  clear h
  go_wp2_with fail
  refine (HC.out _ _ _).mono ?_
  rintro e w2 ⟨x, xc, rfl, h⟩
  have H2 : Hid (AtW w (KStep p x xc 4 4 [] 9 0 rs false 0 0 0 ⟨0, 0, 0, 0, 0⟩) w2) := (H1.out.new (MemH.good _ _ _ _) h).imp fun _ h => star_as h
  clear h H1 HC
  go_wp2_with fail
  refine (HCB.out _ _ _).mono ?_
  rintro e w3 ⟨rfl, hb⟩
  have H3 := Lib.hid (H2.out.calm (KStep.good _ _ _ _ _ _ _ _ _ _ _ _ _ _) hb)
  clear hb H2 HCB
  go_wp2_with fail
  refine ((comStep_checks p x xc 4 4 [] 9 0 rs false 0 0 0 ⟨0, 0, 0, 0, 0⟩ 5 rfl _ (KStep.good _ _ _ _ _ _ _ _ _ _ _ _ _ _) 2 0 true (comChecks_go p x xc 4 4 [] _ 9 0 rs false 0 0 0 ⟨0, 0, 0, 0, 0⟩ ⟨4, 0, 0, 0, 0⟩ 5 0 true rfl ⟨by decide, by decide⟩ (by decide) 2 rfl (chkStep_go p xc 4 4 [] (by decide) (by decide) (by decide) 0 (by decide) rs HWD.out false ⟨0, 0, 0, 0, 0⟩ 5 (.inl (.inl rfl)) 1 0 0 rfl 0 rfl ⟨by decide, by decide⟩ _ 3 0 S1.out))).at H3.out).mono ?_
  rintro e w4 ⟨rfl, h⟩
  have H4 := Lib.hid (h.box (KStep.good _ _ _ _ _ _ _ _ _ _ _ _ _ _) #[.int .i64 2, .int .i64 0, .int .i64 0, .bool true] 51)
  clear h H3
  unfold ansV
  go_wp2_with fail
  refine ((Lifts.left (BlkH.good _ _ _) (comStep_yes p x xc 4 4 _ 9 0 rs false 2 0 0 ⟨4, 0, 0, 0, 0⟩ 5 (by simp) (by decide) (by decide) rfl rfl)).at H4.out).mono ?_
  rintro e w5 ⟨rfl, h⟩
  have H5 := Lib.hid (h.box ((KStep.good _ _ _ _ _ _ _ _ _ _ _ _ _ _).star (BlkH.good _ _ _)) #[.int .i64 3, .int .i64 0, .int .i64 (0 + 1), .bool true] 51)
  clear h H4
  unfold ansV
  go_wp2_with fail
  refine ((Looks.left (Looks.left (Looks.right (comStamp_any x xc 4 9 0 rs false 3 0 (0 + 1))))).at (((KStep.good _ _ _ _ _ _ _ _ _ _ _ _ _ _).star (BlkH.good _ _ _)).star (BlkH.good _ _ _)) H5.out).mono ?_
  rintro e w6 ⟨rfl, h⟩
  have H6 := Lib.hid h
  clear h H5
  go_wp2_with fail
  refine ((Looks.left (Looks.left (Looks.left (Looks.left (peek_in p 4 4 _ 1 0 0 (.inl ⟨rfl, rfl, rfl⟩)))))).at (((KStep.good _ _ _ _ _ _ _ _ _ _ _ _ _ _).star (BlkH.good _ _ _)).star (BlkH.good _ _ _)) H6.out).mono ?_
  rintro e w7 ⟨rfl, h⟩
  have eu : ∀ wd : Int → Int → Int → Int, upd wd 1 0 0 (0 + 1) 1 0 0 = 1 := fun wd => if_pos ⟨rfl, rfl, rfl⟩
  rw [wordOf_sw1, eu]
  clear eu
  have HE := Lib.hid h.below
  obtain ⟨a0, a1, a2, a3, _⟩ := four_cells h.has.right.blk
  obtain ⟨b0, b1, b2, b3, _⟩ := four_cells h.has.left.right.blk
  clear h H6
  go_wp2_with fail
  go_ret
  exact ⟨rfl, HE.out⟩
end Go.Proofs.Ytojkeahffabifaa
