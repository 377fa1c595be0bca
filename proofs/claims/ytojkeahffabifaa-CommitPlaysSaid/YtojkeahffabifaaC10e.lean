/- Layer 10: Step of a machine that publishes; whatever step. -/
import Derived.Test.YtojkeahffabifaaC10d
import Derived.Test.YtojkeahffabifaaC3k
namespace Go.Proofs.Ytojkeahffabifaa
open Go.RowKit
set_option linter.unusedVariables false
theorem Stp.newC {A A' : HP} (gA' : Good A') (gA : Good A) {w w1 w2 : World} {F : Nat → Prop} (h : Stp w w1 F A) (k : AtW w1 A' w2) : Stp w w2 F (Star A A') := by
  obtain ⟨F1, h1, h2, h3⟩ := h
  obtain ⟨F2, k1, k2, k3⟩ := k
  have z := h2.size
  refine ⟨fun b => F1 b ∨ F2 b, ⟨F1, F2, gA.calm h1 k2, k1, fun _ => Iff.rfl, fun b q1 q2 => ?_⟩, h2.trans (Chg.calm F k2) (fun _ h => h) (fun b hb h => h), fun b q => ?_⟩
  · have := gA.lt h1 q1
    have := k3 b q2
    omega
  · rcases q with q | q
    · exact h3 b q
    · right; have := k3 b q; omega
/-- One of a family. -/
def ExH (Q : Nat → HP) : HP := fun w F => ∃ x, Q x w F
theorem ExH.good {Q : Nat → HP} (h : ∀ x, Good (Q x)) : Good (ExH Q) where
  chg := by
    rintro w w' F S ⟨x, hx⟩ hc hS
    exact ⟨x, (h x).chg hx hc hS⟩
  lt := by
    rintro w F b ⟨x, hx⟩ hb
    exact (h x).lt hx hb
theorem ExH.look {P : Program} {f : FuncId} {args : Array Value} {Q : Nat → HP} {v : Ending} (h : ∀ x, Looks P f args (Q x) v) : Looks P f args (ExH Q) v := by
  rintro w F ⟨x, hx⟩
  exact h x w F hx
theorem ExH.lift {P : Program} {f : FuncId} {args : Array Value} {Q : Nat → HP} {O : HP} {v : Ending} (h : ∀ x, Lifts P f args (Q x) O v) : Lifts P f args (ExH Q) O v := by
  rintro w F ⟨x, hx⟩
  exact h x w F hx
theorem ExH.to {P : Program} {f : FuncId} {args : Array Value} {Q : Nat → HP} {O : HP} {v : Ending} (x : Nat) (h : Lifts P f args O (Q x) v) : Lifts P f args O (ExH Q) v := by
  rintro w F hO
  refine (h w F hO).mono ?_
  rintro e w' ⟨rfl, hs⟩
  exact ⟨rfl, hs.imp fun _ h => ⟨x, h⟩⟩
theorem Star.mapM {A A' B : HP} {w : World} {F : Nat → Prop} (h : Star A B w F) (k : ∀ F, A w F → A' w F) : Star A' B w F := by
  obtain ⟨FA, FB, a, b, c, d⟩ := h
  exact ⟨FA, FB, k _ a, b, c, d⟩
theorem k_round {p x xc xd ring cells : Nat} {l : List Acc} {last fr : Int} {rs : Nat → Int} {mu : Bool} {st seen stamp : Int} {s s' : CS} {B : HP} (gb : Good B) {w w2 : World} {F : Nat → Prop} (h : Stp w w2 F (Star (Star (KStep p x xc ring cells l last fr rs mu st seen stamp s) B) (ChkH xd ring fr rs false s'))) : Stp w (w2.setCell ⟨x, 17, none⟩ (.pointer (some ⟨xd, 0, none⟩))) F (Star (KStep p x xd ring cells l last fr rs mu st seen stamp s') B) := by
  have h1 := h.move (Moves.left (BlkH.good _ _ _) (Moves.left gb (Moves.right (CStep.good _ _ _ _ _ _ _ _ _ _) (BlkH.set (p := x) (cs := comC x xc ring last fr rs mu st seen stamp) 17 (.pointer (some ⟨xd, 0, none⟩))))))
  rw [comC_round] at h1
  exact (h1.imp fun _ h => ((h.swap).mapM fun _ h => (((h.swap).mapM fun _ h => h.swap).swap)).swap).fst
set_option maxRecDepth 100000 in
set_option maxHeartbeats 2000000 in
theorem comStep_yes (p x xc ring cells : Nat) (l : List Acc) (last fr : Int) (rs : Nat → Int) (mu : Bool) (st seen stamp : Int) (s : CS) (th : Int) (hlen : l.length ≤ 3000000000000) (hs0 : 0 ≤ seen) (hs1 : seen ≤ 1099511627776) (h0 : st = 2) (hv : wordOf l 1 0 0 = seen) : Lifts Try.prog 12 #[.pointer (some ⟨x, 0, none⟩), .pointer (some ⟨p, 0, none⟩), .int .i64 th] (KStep p x xc ring cells l last fr rs mu st seen stamp s) (KStep p x xc ring cells (l ++ [swAcc th 1 0 0 seen (seen + 1) true]) last fr rs mu 3 seen (seen + 1) s) (.returned (ansV 3 0 (seen + 1) true)) := by
  rintro w F hO
  have hxl : x < w.heap.size := heap_lt (Stp.refl hO).has.right.blk
  have hne : x ≠ w.heap.size := by omega
  have hne2 : w.heap.size ≠ x := by omega
  have GA := Lib.hid (fun cs => BlkH.good w.heap.size cs 51)
  have GK := Lib.hid (KStep.good p x xc ring cells l last fr rs mu st seen stamp s)
  have H0 := Lib.hid ((Stp.refl hO).box GK.out #[.int .i64 0, .int .i64 0, .int .i64 0, .bool false] 51)
  have HSZ := Lib.hid (Stp.look (GK.out.star (GA.out _)) (Looks.left (B := BlkH w.heap.size #[.int .i64 0, .int .i64 0, .int .i64 0, .bool false] 51) (Looks.left (B := ComH x xc ring last fr rs mu st seen stamp) (Looks.left (B := ChkH xc ring fr rs false s) (sizes_any p ring cells l)))) H0.out)
  clear hO
  have HV := Lib.hid hv
  clear hv
  go_enter Try.func12, Try.ntmps12
  go_wp2_with fail
  refine HSZ.out.mono ?_; rintro e w2 ⟨rfl, h⟩
  have H2 := Lib.hid h
  have hR := com_cells h.has.left.right.blk
  obtain ⟨r0, r1, r2, r3, rz⟩ := four_cells h.has.right.blk
  have c1 := hR.c1
  have c8 := hR.c8
  have c18 := hR.c18
  have c20 := hR.c20
  have fz := hR.fz
  clear h hR HSZ
  have hK : Lifts Try.prog 39 #[.pointer (some ⟨p, 0, none⟩), .int .i64 th, .agg #[.int .i64 1, .int .i64 0, .int .i64 0], .int .i64 seen, .int .i64 (seen + 1)] (MemH p ring cells l) (MemH p ring cells (l ++ [swAcc th 1 0 0 seen (seen + 1) true])) (.returned (.tuple #[.bool true, .int .i64 0])) := swap_yes p ring cells l hlen th 1 0 0 seen (seen + 1) HV.out (.inl ⟨rfl, rfl, rfl⟩)
  have HC := Lib.hid (Stp.lift (Lifts.left (GA.out _) (Lifts.left (ComH.good x xc ring last fr rs mu st seen stamp) (Lifts.left (BlkH.good _ _ _) hK))) (H2.out.drew ((KStep.good _ _ _ _ _ _ _ _ _ _ _ _ _ _).star (GA.out _))))
  rw [h0] at c18
  have HST := Lib.hid h0
  have HW : Hid (IntKind.i64.wrap (seen + 1) = seen + 1) := by
    show _ = _
    rw [IntKind.wrap_i64]; omega
  clear hK c20 r0 r1 r2 r3 rz HV
  go_wp2_with fail
  go_region_held3 (fun wx => wx.cell? ⟨x, 8, none⟩ = some (.int .i64 seen)) (first | exact c8 | assumption) ((go_at_call 39; (try rw [HW.out]); refine HC.out.mono ?_; rintro e w3 ⟨rfl, h⟩; have H3 := Lib.hid h; have hR3 := com_cells h.has.left.right.blk; have j8 := hR3.c8))
  all_goals
    have k8 := hR3.c8
    have k18 := hR3.c18
    have k19 := hR3.c19
    have kz := hR3.fz
    have H4 := Lib.hid (k_stamp (GA.out _) (k_st (GA.out _) H3.out 3) (seen + 1))
    obtain ⟨r0, r1, r2, r3, rz⟩ := four_cells H3.out.has.right.blk
    clear hR3 HC c1 c8 c18 fz j8
    go_wp2_with fail
    refine bodyPost_ret (v := _) (by simp [results, Try.results12, go_sem, r0, r1, r2, r3]; rfl) rfl ?_
    exact ⟨rfl, ans_set (KStep.good _ _ _ _ _ _ _ _ _ _ _ _ _ _) H4.out _ _ _ _⟩
set_option maxRecDepth 100000 in
set_option maxHeartbeats 2000000 in
theorem comStep_no (p x xc ring cells : Nat) (l : List Acc) (last fr : Int) (rs : Nat → Int) (mu : Bool) (st seen stamp : Int) (s : CS) (th : Int) (hlen : l.length ≤ 3000000000000) (hr1 : 1 ≤ ring) (hr2 : ring ≤ 16) (hf : 0 ≤ fr) (hs0 : 0 ≤ seen) (hs1 : seen ≤ 1099511627776) (h0 : st = 2) (u : Int) (hv : wordOf l 1 0 0 = u) (hne3 : u ≠ seen) : Lifts Try.prog 12 #[.pointer (some ⟨x, 0, none⟩), .pointer (some ⟨p, 0, none⟩), .int .i64 th] (KStep p x xc ring cells l last fr rs mu st seen stamp s) (fun w F => ∃ xd, KStep p x xd ring cells (l ++ [swAcc th 1 0 0 seen (seen + 1) false]) last fr rs mu 0 seen stamp ⟨0, fr, 0, 0, 0⟩ w F) (.returned (ansV 2 0 0 true)) := by
  rintro w F hO
  have hxl : x < w.heap.size := heap_lt (Stp.refl hO).has.right.blk
  have hne : x ≠ w.heap.size := by omega
  have hne2 : w.heap.size ≠ x := by omega
  have GA := Lib.hid (fun cs => BlkH.good w.heap.size cs 51)
  have GK := Lib.hid (KStep.good p x xc ring cells l last fr rs mu st seen stamp s)
  have H0 := Lib.hid ((Stp.refl hO).box GK.out #[.int .i64 0, .int .i64 0, .int .i64 0, .bool false] 51)
  have HSZ := Lib.hid (Stp.look (GK.out.star (GA.out _)) (Looks.left (B := BlkH w.heap.size #[.int .i64 0, .int .i64 0, .int .i64 0, .bool false] 51) (Looks.left (B := ComH x xc ring last fr rs mu st seen stamp) (Looks.left (B := ChkH xc ring fr rs false s) (sizes_any p ring cells l)))) H0.out)
  clear hO
  have HV := Lib.hid hv
  have HNE := Lib.hid hne3
  have HCN := Lib.hid (chkNew_any ring fr rs false (by omega) (by omega) hf)
  clear hv hne3
  go_enter Try.func12, Try.ntmps12
  go_wp2_with fail
  refine HSZ.out.mono ?_; rintro e w2 ⟨rfl, h⟩
  have H2 := Lib.hid h
  have hR := com_cells h.has.left.right.blk
  obtain ⟨r0, r1, r2, r3, rz⟩ := four_cells h.has.right.blk
  have c1 := hR.c1
  have c8 := hR.c8
  have c18 := hR.c18
  have c20 := hR.c20
  have fz := hR.fz
  clear h hR HSZ
  have hK : Lifts Try.prog 39 #[.pointer (some ⟨p, 0, none⟩), .int .i64 th, .agg #[.int .i64 1, .int .i64 0, .int .i64 0], .int .i64 seen, .int .i64 (seen + 1)] (MemH p ring cells l) (MemH p ring cells (l ++ [swAcc th 1 0 0 seen (seen + 1) false])) (.returned (.tuple #[.bool false, .int .i64 0])) := swap_no p ring cells l hlen th 1 0 0 seen (seen + 1) u HV.out HNE.out (.inl ⟨rfl, rfl, rfl⟩)
  have HC := Lib.hid (Stp.lift (Lifts.left (GA.out _) (Lifts.left (ComH.good x xc ring last fr rs mu st seen stamp) (Lifts.left (BlkH.good _ _ _) hK))) (H2.out.drew ((KStep.good _ _ _ _ _ _ _ _ _ _ _ _ _ _).star (GA.out _))))
  rw [h0] at c18
  have HST := Lib.hid h0
  have HW : Hid (IntKind.i64.wrap (seen + 1) = seen + 1) := by
    show _ = _
    rw [IntKind.wrap_i64]; omega
  clear hK c20 r0 r1 r2 r3 rz HV
  go_wp2_with fail
  go_region_held3 (fun wx => wx.cell? ⟨x, 8, none⟩ = some (.int .i64 seen)) (first | exact c8 | assumption) ((go_at_call 39; (try rw [HW.out]); refine HC.out.mono ?_; rintro e w3 ⟨rfl, h⟩; have H3 := Lib.hid h; have hR3 := com_cells h.has.left.right.blk; have j8 := hR3.c8))
  all_goals
    have hx3 := H3.out.has.left.right.blk
    have k1 := hR3.c1
    have k7 := hR3.c7
    have k9 := hR3.r0
    have k10 := hR3.r1
    have k11 := hR3.r2
    have k12 := hR3.r3
    have k13 := hR3.r4
    have k14 := hR3.r5
    have k15 := hR3.r6
    have k16 := hR3.r7
    have kz := hR3.fz
    have HX3 := Lib.hid hx3
    have hx3l := heap_lt hx3
    have H3D := Lib.hid (H3.out.drew ((KStep.good _ _ _ _ _ _ _ _ _ _ _ _ _ _).star (GA.out _)))
    clear hR3 HC c1 c8 c18 fz j8 hx3
    go_wp2_with fail
    go_region_held3 (fun wx => wx.cell? ⟨x, 1, none⟩ = some (.int .i64 ring) ∧ wx.cell? ⟨x, 7, none⟩ = some (.int .i64 fr) ∧ wx.cell? ⟨x, 9, none⟩ = some (.int .u64 (rs 0)) ∧ wx.cell? ⟨x, 10, none⟩ = some (.int .u64 (rs 1)) ∧ wx.cell? ⟨x, 11, none⟩ = some (.int .u64 (rs 2)) ∧ wx.cell? ⟨x, 12, none⟩ = some (.int .u64 (rs 3)) ∧ wx.cell? ⟨x, 13, none⟩ = some (.int .u64 (rs 4)) ∧ wx.cell? ⟨x, 14, none⟩ = some (.int .u64 (rs 5)) ∧ wx.cell? ⟨x, 15, none⟩ = some (.int .u64 (rs 6)) ∧ wx.cell? ⟨x, 16, none⟩ = some (.int .u64 (rs 7))) (first | exact ⟨k1, k7, k9, k10, k11, k12, k13, k14, k15, k16⟩ | exact ⟨hR4.c1, hR4.c7, hR4.r0, hR4.r1, hR4.r2, hR4.r3, hR4.r4, hR4.r5, hR4.r6, hR4.r7⟩ | exact ⟨(World.cell?_setCell_other _ _ _ _ (by simp)).trans hR4.c1, (World.cell?_setCell_other _ _ _ _ (by simp)).trans hR4.c7, (World.cell?_setCell_other _ _ _ _ (by simp)).trans hR4.r0, (World.cell?_setCell_other _ _ _ _ (by simp)).trans hR4.r1, (World.cell?_setCell_other _ _ _ _ (by simp)).trans hR4.r2, (World.cell?_setCell_other _ _ _ _ (by simp)).trans hR4.r3, (World.cell?_setCell_other _ _ _ _ (by simp)).trans hR4.r4, (World.cell?_setCell_other _ _ _ _ (by simp)).trans hR4.r5, (World.cell?_setCell_other _ _ _ _ (by simp)).trans hR4.r6, (World.cell?_setCell_other _ _ _ _ (by simp)).trans hR4.r7⟩) ((go_at_call 32; refine (HCN.out _).mono ?_; rintro e w4 ⟨xd, rfl, h⟩; have hR4 := com_cells ((h.below.block x hx3l).trans HX3.out); have j17 := hR4.c17; have jz := hR4.fz; have H5 := Lib.hid (k_round (GA.out _) (H3D.out.newC (BlkH.good _ _ _) ((KStep.good _ _ _ _ _ _ _ _ _ _ _ _ _ _).star (GA.out _)) h))))
    all_goals
      have HMV := Lib.hid (Stp.lift (Lifts.left (GA.out _) (Lifts.right (CStep.good _ _ _ _ _ _ _ _ _ _) (comMoved_any x xd ring last fr rs mu st seen stamp 0))) H5.out)
      clear h H5 HCN k1 k7 k9 k10 k11 k12 k13 k14 k15 k16 kz
      go_wp2_with fail
      refine HMV.out.mono ?_; rintro e w5 ⟨rfl, h⟩
      have H6 := Lib.hid h
      obtain ⟨r0, r1, r2, r3, rz⟩ := four_cells h.has.right.blk
      clear h HMV
      unfold ansV
      go_wp2_with fail
      refine bodyPost_ret (v := _) (by simp [results, Try.results12, go_sem, r0, r1, r2, r3]; rfl) rfl ?_
      exact ⟨rfl, (ans_set (KStep.good _ _ _ _ _ _ _ _ _ _ _ _ _ _) H6.out _ _ _ _).imp fun _ h => ⟨xd, h⟩⟩
end Go.Proofs.Ytojkeahffabifaa
