/- Layer 8: the program's first. -/
import Derived.Test.YtojkeahffabifaaC8
import Derived.Test.YtojkeahffabifaaC2e
namespace Go.Proofs.Ytojkeahffabifaa
open Go.RowKit
set_option linter.unusedVariables false
abbrev CStep (p x ring cells : Nat) (l : List Acc) (size fr : Int) (rs : Nat → Int) (last : Bool) (s : CS) : HP := Star (MemH p ring cells l) (ChkH x size fr rs last s)
theorem CStep.good (p x ring cells : Nat) (l : List Acc) (size fr : Int) (rs : Nat → Int) (last : Bool) (s : CS) : Good (CStep p x ring cells l size fr rs last s) := (MemH.good _ _ _ _).star (BlkH.good _ _ _)
theorem zeroS_step (rs : Nat → Int) (k : Nat) (hk : k < 8) : (nextW rs k == 8) = ((rs k == 0) && (nextW rs (k + 1) == 8)) := by
  by_cases h : rs k = 0
  · rw [nextW_zero hk h]; simp [h]
  · rw [nextW_here hk h]
    have e : (rs k == 0) = false := by simp [h]
    have e2 : (k == 8) = false := by simp; omega
    rw [e, e2]; rfl
theorem zeroS_eq (rs : Nat → Int) : zeroS rs = (rs 0 == 0 && (rs 1 == 0 && (rs 2 == 0 && (rs 3 == 0 && (rs 4 == 0 && (rs 5 == 0 && (rs 6 == 0 && (rs 7 == 0)))))))) := by
  unfold zeroS
  rw [zeroS_step rs 0 (by decide), zeroS_step rs 1 (by decide), zeroS_step rs 2 (by decide), zeroS_step rs 3 (by decide), zeroS_step rs 4 (by decide), zeroS_step rs 5 (by decide), zeroS_step rs 6 (by decide), zeroS_step rs 7 (by decide), nextW_end]
  simp
theorem zero_run (rs : Nat → Int) (z : Bool) (hz : zeroS rs = z) (w : World) : (Op.equalIn 10000 42 (.agg #[.int .u64 (rs 0), .int .u64 (rs 1), .int .u64 (rs 2), .int .u64 (rs 3), .int .u64 (rs 4), .int .u64 (rs 5), .int .u64 (rs 6), .int .u64 (rs 7)]) (.agg #[.int .u64 0, .int .u64 0, .int .u64 0, .int .u64 0, .int .u64 0, .int .u64 0, .int .u64 0, .int .u64 0])).run Try.prog w = .ok z w := by
  rw [run_sig_eq, ← zeroS_eq, hz]
set_option maxHeartbeats 2000000 in
theorem chkFirst_zero (p x ring cells : Nat) (l : List Acc) (hlen : l.length ≤ 3000000000000) (hr1 : 1 ≤ ring) (hr2 : ring ≤ 16) (fr : Int) (hf : 0 ≤ fr) (rs : Nat → Int) (hrs : Wds rs) (last : Bool) (s : CS) (th : Int) (hvI : I64 (wordOf l 1 0 0)) (hz : zeroS rs = true) :
    Lifts Try.prog 71 #[.pointer (some ⟨x, 0, none⟩), .pointer (some ⟨p, 0, none⟩), .int .i64 th] (CStep p x ring cells l ring fr rs last s) (CStep p x ring cells (l ++ [ldAcc th 1 0 0 (wordOf l 1 0 0)]) ring fr rs last ⟨4, s.start, (wordOf l 1 0 0), s.sk, s.word⟩) (.returned (ansV 3 0 0 true)) := by
  rintro w F hO
  have hxlt : x < w.heap.size := by
    obtain ⟨_, _, _, hx, _⟩ := hO
    exact heap_lt hx.1
  have hne : x ≠ w.heap.size := by omega
  have hne2 : w.heap.size ≠ x := by omega
  have GM2 := Lib.hid (MemH.good p ring cells (l ++ [ldAcc th 1 0 0 (wordOf l 1 0 0)]))
  have GR := Lib.hid (BlkH.good w.heap.size #[.int .i64 0, .int .i64 0, .int .i64 0, .bool false] 51)
  have GMX := Lib.hid (CStep.good p x ring cells l ring fr rs last s)
  have H0 := Lib.hid ((Stp.refl hO).box GMX.out #[.int .i64 0, .int .i64 0, .int .i64 0, .bool false] 51)
  have HL := Lib.hid (Lifts.left (B := BlkH w.heap.size #[.int .i64 0, .int .i64 0, .int .i64 0, .bool false] 51) GR.out (Lifts.left (B := ChkH x ring fr rs last s) (BlkH.good _ _ _) (load_in p ring cells l hlen th 1 0 0 (.inl ⟨rfl, rfl, rfl⟩))))
  have HWR := Lib.hid hrs
  clear hO hrs
  generalize hV : wordOf l 1 0 0 = v at *
  clear hV
  obtain ⟨hv1, hv2⟩ := hvI
  go_enter Try.func71, Try.ntmps71
  go_wp2_with fail
  have hzr := zero_run rs true hz
  refine (Stp.lift HL.out H0.out).mono ?_
  rintro e w2 ⟨rfl, h2⟩
  have H2 := Lib.hid h2
  clear h2 HL
  obtain ⟨_, _, _, _, _, _, k13, _, _, fz0⟩ := chk_cells H2.out.has.left.right.blk
  go_wp2_with fail
  have H3 : Hid (Stp w (w2.setCell ⟨x, 13, none⟩ (.int .i64 v)) F (Star (Star (MemH p ring cells (l ++ [ldAcc th 1 0 0 v])) (ChkH x ring fr rs last ⟨s.st, s.start, v, s.sk, s.word⟩)) (BlkH w.heap.size #[.int .i64 0, .int .i64 0, .int .i64 0, .bool false] 51))) := (H2.out).move (Moves.left (BlkH.good _ _ _) (Moves.right GM2.out (BlkH.set 13 _)))
  clear H2 k13 fz0 H0
  generalize w2.setCell ⟨x, 13, none⟩ (.int .i64 v) = w3 at *
  obtain ⟨c0, c1, rd, c10, c11, c12, c13, c14, c15, fz⟩ := chk_cells H3.out.has.left.right.blk
  have d0 := rd 0 (by decide)
  have d1 := rd 1 (by decide)
  have d2 := rd 2 (by decide)
  have d3 := rd 3 (by decide)
  have d4 := rd 4 (by decide)
  have d5 := rd 5 (by decide)
  have d6 := rd 6 (by decide)
  have d7 := rd 7 (by decide)
  simp only [Nat.add_zero, Nat.reduceAdd] at d0 d1 d2 d3 d4 d5 d6 d7
  clear rd
  go_quiet (fail)
  have H4 : Hid (Stp w (w3.drewN nq) F _) := H3.out.below ((GM2.out.star (BlkH.good _ _ _)).star (BlkH.good _ _ _)) (below_drewN (Below.refl _ _) _)
  go_wp2_with fail
  refine (Stp.lift (Lifts.left (B := BlkH w.heap.size #[.int .i64 0, .int .i64 0, .int .i64 0, .bool false] 51) GR.out (Lifts.right GM2.out (chkMoves_thr x ring fr rs last ⟨s.st, s.start, v, s.sk, s.word⟩))) (H4.out)).mono ?_
  rintro e w9 ⟨rfl, h9⟩
  have H9 := Lib.hid h9
  obtain ⟨r0, r1, r2, r3, rz⟩ := four_cells h9.has.right.blk
  clear h9
  unfold ansV
  go_wp2_with fail
  refine bodyPost_ret (v := _) (by simp [results, Try.results71, go_sem, r0, r1, r2, r3]; rfl) rfl ?_
  exact ⟨rfl, (((((H9.out).move (Moves.right (GM2.out.star (BlkH.good _ _ _)) (BlkH.set 0 _))).move (Moves.right (GM2.out.star (BlkH.good _ _ _)) (BlkH.set 1 _))).move (Moves.right (GM2.out.star (BlkH.good _ _ _)) (BlkH.set 2 _))).move (Moves.right (GM2.out.star (BlkH.good _ _ _)) (BlkH.set 3 _))).fst⟩
set_option maxHeartbeats 2000000 in
theorem chkFirst_old (p x ring cells : Nat) (l : List Acc) (hlen : l.length ≤ 3000000000000) (hr1 : 1 ≤ ring) (hr2 : ring ≤ 16) (fr : Int) (hf : 0 ≤ fr) (rs : Nat → Int) (hrs : Wds rs) (last : Bool) (s : CS) (th : Int) (hvI : I64 (wordOf l 1 0 0)) (hz : zeroS rs = false) (hv : wordOf l 1 0 0 ≤ fr) :
    Lifts Try.prog 71 #[.pointer (some ⟨x, 0, none⟩), .pointer (some ⟨p, 0, none⟩), .int .i64 th] (CStep p x ring cells l ring fr rs last s) (CStep p x ring cells (l ++ [ldAcc th 1 0 0 (wordOf l 1 0 0)]) ring fr rs last ⟨4, s.start, (wordOf l 1 0 0), s.sk, s.word⟩) (.returned (ansV 3 0 0 true)) := by
  rintro w F hO
  have hxlt : x < w.heap.size := by
    obtain ⟨_, _, _, hx, _⟩ := hO
    exact heap_lt hx.1
  have hne : x ≠ w.heap.size := by omega
  have hne2 : w.heap.size ≠ x := by omega
  have GM2 := Lib.hid (MemH.good p ring cells (l ++ [ldAcc th 1 0 0 (wordOf l 1 0 0)]))
  have GR := Lib.hid (BlkH.good w.heap.size #[.int .i64 0, .int .i64 0, .int .i64 0, .bool false] 51)
  have GMX := Lib.hid (CStep.good p x ring cells l ring fr rs last s)
  have H0 := Lib.hid ((Stp.refl hO).box GMX.out #[.int .i64 0, .int .i64 0, .int .i64 0, .bool false] 51)
  have HL := Lib.hid (Lifts.left (B := BlkH w.heap.size #[.int .i64 0, .int .i64 0, .int .i64 0, .bool false] 51) GR.out (Lifts.left (B := ChkH x ring fr rs last s) (BlkH.good _ _ _) (load_in p ring cells l hlen th 1 0 0 (.inl ⟨rfl, rfl, rfl⟩))))
  have HWR := Lib.hid hrs
  clear hO hrs
  generalize hV : wordOf l 1 0 0 = v at *
  clear hV
  obtain ⟨hv1, hv2⟩ := hvI
  go_enter Try.func71, Try.ntmps71
  go_wp2_with fail
  have hzr := zero_run rs false hz
  refine (Stp.lift HL.out H0.out).mono ?_
  rintro e w2 ⟨rfl, h2⟩
  have H2 := Lib.hid h2
  clear h2 HL
  obtain ⟨_, _, _, _, _, _, k13, _, _, fz0⟩ := chk_cells H2.out.has.left.right.blk
  go_wp2_with fail
  have H3 : Hid (Stp w (w2.setCell ⟨x, 13, none⟩ (.int .i64 v)) F (Star (Star (MemH p ring cells (l ++ [ldAcc th 1 0 0 v])) (ChkH x ring fr rs last ⟨s.st, s.start, v, s.sk, s.word⟩)) (BlkH w.heap.size #[.int .i64 0, .int .i64 0, .int .i64 0, .bool false] 51))) := (H2.out).move (Moves.left (BlkH.good _ _ _) (Moves.right GM2.out (BlkH.set 13 _)))
  clear H2 k13 fz0 H0
  generalize w2.setCell ⟨x, 13, none⟩ (.int .i64 v) = w3 at *
  obtain ⟨c0, c1, rd, c10, c11, c12, c13, c14, c15, fz⟩ := chk_cells H3.out.has.left.right.blk
  have d0 := rd 0 (by decide)
  have d1 := rd 1 (by decide)
  have d2 := rd 2 (by decide)
  have d3 := rd 3 (by decide)
  have d4 := rd 4 (by decide)
  have d5 := rd 5 (by decide)
  have d6 := rd 6 (by decide)
  have d7 := rd 7 (by decide)
  simp only [Nat.add_zero, Nat.reduceAdd] at d0 d1 d2 d3 d4 d5 d6 d7
  clear rd
  go_quiet (fail)
  have H4 : Hid (Stp w (w3.drewN nq) F _) := H3.out.below ((GM2.out.star (BlkH.good _ _ _)).star (BlkH.good _ _ _)) (below_drewN (Below.refl _ _) _)
  go_wp2_with fail
  refine (Stp.lift (Lifts.left (B := BlkH w.heap.size #[.int .i64 0, .int .i64 0, .int .i64 0, .bool false] 51) GR.out (Lifts.right GM2.out (chkMoves_thr x ring fr rs last ⟨s.st, s.start, v, s.sk, s.word⟩))) (H4.out)).mono ?_
  rintro e w9 ⟨rfl, h9⟩
  have H9 := Lib.hid h9
  obtain ⟨r0, r1, r2, r3, rz⟩ := four_cells h9.has.right.blk
  clear h9
  unfold ansV
  go_wp2_with fail
  refine bodyPost_ret (v := _) (by simp [results, Try.results71, go_sem, r0, r1, r2, r3]; rfl) rfl ?_
  exact ⟨rfl, (((((H9.out).move (Moves.right (GM2.out.star (BlkH.good _ _ _)) (BlkH.set 0 _))).move (Moves.right (GM2.out.star (BlkH.good _ _ _)) (BlkH.set 1 _))).move (Moves.right (GM2.out.star (BlkH.good _ _ _)) (BlkH.set 2 _))).move (Moves.right (GM2.out.star (BlkH.good _ _ _)) (BlkH.set 3 _))).fst⟩
set_option maxHeartbeats 2000000 in
theorem chkFirst_far (p x ring cells : Nat) (l : List Acc) (hlen : l.length ≤ 3000000000000) (hr1 : 1 ≤ ring) (hr2 : ring ≤ 16) (fr : Int) (hf : 0 ≤ fr) (rs : Nat → Int) (hrs : Wds rs) (last : Bool) (s : CS) (th : Int) (hvI : I64 (wordOf l 1 0 0)) (hz : zeroS rs = false) (hv : ¬ wordOf l 1 0 0 ≤ fr) (hfar : farB ring fr (wordOf l 1 0 0) = true) :
    Lifts Try.prog 71 #[.pointer (some ⟨x, 0, none⟩), .pointer (some ⟨p, 0, none⟩), .int .i64 th] (CStep p x ring cells l ring fr rs last s) (CStep p x ring cells (l ++ [ldAcc th 1 0 0 (wordOf l 1 0 0)]) ring fr rs last ⟨5, s.start, (wordOf l 1 0 0), s.sk, s.word⟩) (.returned (ansV 4 4 0 true)) := by
  rintro w F hO
  have hxlt : x < w.heap.size := by
    obtain ⟨_, _, _, hx, _⟩ := hO
    exact heap_lt hx.1
  have hne : x ≠ w.heap.size := by omega
  have hne2 : w.heap.size ≠ x := by omega
  have GM2 := Lib.hid (MemH.good p ring cells (l ++ [ldAcc th 1 0 0 (wordOf l 1 0 0)]))
  have GR := Lib.hid (BlkH.good w.heap.size #[.int .i64 0, .int .i64 0, .int .i64 0, .bool false] 51)
  have GMX := Lib.hid (CStep.good p x ring cells l ring fr rs last s)
  have H0 := Lib.hid ((Stp.refl hO).box GMX.out #[.int .i64 0, .int .i64 0, .int .i64 0, .bool false] 51)
  have HL := Lib.hid (Lifts.left (B := BlkH w.heap.size #[.int .i64 0, .int .i64 0, .int .i64 0, .bool false] 51) GR.out (Lifts.left (B := ChkH x ring fr rs last s) (BlkH.good _ _ _) (load_in p ring cells l hlen th 1 0 0 (.inl ⟨rfl, rfl, rfl⟩))))
  have HWR := Lib.hid hrs
  clear hO hrs
  generalize hV : wordOf l 1 0 0 = v at *
  clear hV
  obtain ⟨hv1, hv2⟩ := hvI
  go_enter Try.func71, Try.ntmps71
  go_wp2_with fail
  have hzr := zero_run rs false hz
  refine (Stp.lift HL.out H0.out).mono ?_
  rintro e w2 ⟨rfl, h2⟩
  have H2 := Lib.hid h2
  clear h2 HL
  obtain ⟨_, _, _, _, _, _, k13, _, _, fz0⟩ := chk_cells H2.out.has.left.right.blk
  go_wp2_with fail
  have H3 : Hid (Stp w (w2.setCell ⟨x, 13, none⟩ (.int .i64 v)) F (Star (Star (MemH p ring cells (l ++ [ldAcc th 1 0 0 v])) (ChkH x ring fr rs last ⟨s.st, s.start, v, s.sk, s.word⟩)) (BlkH w.heap.size #[.int .i64 0, .int .i64 0, .int .i64 0, .bool false] 51))) := (H2.out).move (Moves.left (BlkH.good _ _ _) (Moves.right GM2.out (BlkH.set 13 _)))
  clear H2 k13 fz0 H0
  generalize w2.setCell ⟨x, 13, none⟩ (.int .i64 v) = w3 at *
  obtain ⟨c0, c1, rd, c10, c11, c12, c13, c14, c15, fz⟩ := chk_cells H3.out.has.left.right.blk
  have d0 := rd 0 (by decide)
  have d1 := rd 1 (by decide)
  have d2 := rd 2 (by decide)
  have d3 := rd 3 (by decide)
  have d4 := rd 4 (by decide)
  have d5 := rd 5 (by decide)
  have d6 := rd 6 (by decide)
  have d7 := rd 7 (by decide)
  simp only [Nat.add_zero, Nat.reduceAdd] at d0 d1 d2 d3 d4 d5 d6 d7
  clear rd
  have hvn : decide (v ≤ fr) = false := by simpa using hv
  go_quiet (fail)
  have H4 : Hid (Stp w (w3.drewN nq) F _) := H3.out.below ((GM2.out.star (BlkH.good _ _ _)).star (BlkH.good _ _ _)) (below_drewN (Below.refl _ _) _)
  go_wp2_with fail
  refine (Stp.look ((GM2.out.star (BlkH.good _ _ _)).star (BlkH.good _ _ _)) (Looks.left (B := BlkH w.heap.size #[.int .i64 0, .int .i64 0, .int .i64 0, .bool false] 51) (Looks.right (A := MemH p ring cells (l ++ [ldAcc th 1 0 0 v])) (chkFar_any x ring hr2 fr hf rs last ⟨s.st, s.start, v, s.sk, s.word⟩ v ⟨hv1, hv2⟩))) H4.out).mono ?_
  rw [hfar]
  rintro e w5 ⟨rfl, h5⟩
  have H5 := Lib.hid h5
  obtain ⟨c0, c1, rd, c10, c11, c12, c13, c14, c15, fz⟩ := chk_cells h5.has.left.right.blk
  clear h5 H4
  go_wp2_with fail
  refine (Stp.lift (Lifts.left (B := BlkH w.heap.size #[.int .i64 0, .int .i64 0, .int .i64 0, .bool false] 51) GR.out (Lifts.right GM2.out (chkFails_any x ring fr rs last ⟨s.st, s.start, v, s.sk, s.word⟩ 4))) (H5.out)).mono ?_
  rintro e w9 ⟨rfl, h9⟩
  have H9 := Lib.hid h9
  obtain ⟨r0, r1, r2, r3, rz⟩ := four_cells h9.has.right.blk
  clear h9
  unfold ansV
  go_wp2_with fail
  refine bodyPost_ret (v := _) (by simp [results, Try.results71, go_sem, r0, r1, r2, r3]; rfl) rfl ?_
  exact ⟨rfl, (((((H9.out).move (Moves.right (GM2.out.star (BlkH.good _ _ _)) (BlkH.set 0 _))).move (Moves.right (GM2.out.star (BlkH.good _ _ _)) (BlkH.set 1 _))).move (Moves.right (GM2.out.star (BlkH.good _ _ _)) (BlkH.set 2 _))).move (Moves.right (GM2.out.star (BlkH.good _ _ _)) (BlkH.set 3 _))).fst⟩
set_option maxHeartbeats 2000000 in
theorem chkFirst_on (p x ring cells : Nat) (l : List Acc) (hlen : l.length ≤ 3000000000000) (hr1 : 1 ≤ ring) (hr2 : ring ≤ 16) (fr : Int) (hf : 0 ≤ fr) (rs : Nat → Int) (hrs : Wds rs) (last : Bool) (s : CS) (th : Int) (hvI : I64 (wordOf l 1 0 0)) (hz : zeroS rs = false) (hv : ¬ wordOf l 1 0 0 ≤ fr) (hfar : farB ring fr (wordOf l 1 0 0) = false) :
    Lifts Try.prog 71 #[.pointer (some ⟨x, 0, none⟩), .pointer (some ⟨p, 0, none⟩), .int .i64 th] (CStep p x ring cells l ring fr rs last s) (CStep p x ring cells (l ++ [ldAcc th 1 0 0 (wordOf l 1 0 0)]) ring fr rs last ⟨1, s.start, (wordOf l 1 0 0), fr + 1, s.word⟩) (.returned (ansV 2 0 0 true)) := by
  rintro w F hO
  have hxlt : x < w.heap.size := by
    obtain ⟨_, _, _, hx, _⟩ := hO
    exact heap_lt hx.1
  have hne : x ≠ w.heap.size := by omega
  have hne2 : w.heap.size ≠ x := by omega
  have GM2 := Lib.hid (MemH.good p ring cells (l ++ [ldAcc th 1 0 0 (wordOf l 1 0 0)]))
  have GR := Lib.hid (BlkH.good w.heap.size #[.int .i64 0, .int .i64 0, .int .i64 0, .bool false] 51)
  have GMX := Lib.hid (CStep.good p x ring cells l ring fr rs last s)
  have H0 := Lib.hid ((Stp.refl hO).box GMX.out #[.int .i64 0, .int .i64 0, .int .i64 0, .bool false] 51)
  have HL := Lib.hid (Lifts.left (B := BlkH w.heap.size #[.int .i64 0, .int .i64 0, .int .i64 0, .bool false] 51) GR.out (Lifts.left (B := ChkH x ring fr rs last s) (BlkH.good _ _ _) (load_in p ring cells l hlen th 1 0 0 (.inl ⟨rfl, rfl, rfl⟩))))
  have HWR := Lib.hid hrs
  clear hO hrs
  generalize hV : wordOf l 1 0 0 = v at *
  clear hV
  obtain ⟨hv1, hv2⟩ := hvI
  go_enter Try.func71, Try.ntmps71
  go_wp2_with fail
  have hzr := zero_run rs false hz
  refine (Stp.lift HL.out H0.out).mono ?_
  rintro e w2 ⟨rfl, h2⟩
  have H2 := Lib.hid h2
  clear h2 HL
  obtain ⟨_, _, _, _, _, _, k13, _, _, fz0⟩ := chk_cells H2.out.has.left.right.blk
  go_wp2_with fail
  have H3 : Hid (Stp w (w2.setCell ⟨x, 13, none⟩ (.int .i64 v)) F (Star (Star (MemH p ring cells (l ++ [ldAcc th 1 0 0 v])) (ChkH x ring fr rs last ⟨s.st, s.start, v, s.sk, s.word⟩)) (BlkH w.heap.size #[.int .i64 0, .int .i64 0, .int .i64 0, .bool false] 51))) := (H2.out).move (Moves.left (BlkH.good _ _ _) (Moves.right GM2.out (BlkH.set 13 _)))
  clear H2 k13 fz0 H0
  generalize w2.setCell ⟨x, 13, none⟩ (.int .i64 v) = w3 at *
  obtain ⟨c0, c1, rd, c10, c11, c12, c13, c14, c15, fz⟩ := chk_cells H3.out.has.left.right.blk
  have d0 := rd 0 (by decide)
  have d1 := rd 1 (by decide)
  have d2 := rd 2 (by decide)
  have d3 := rd 3 (by decide)
  have d4 := rd 4 (by decide)
  have d5 := rd 5 (by decide)
  have d6 := rd 6 (by decide)
  have d7 := rd 7 (by decide)
  simp only [Nat.add_zero, Nat.reduceAdd] at d0 d1 d2 d3 d4 d5 d6 d7
  clear rd
  have hvn : decide (v ≤ fr) = false := by simpa using hv
  go_quiet (fail)
  have H4 : Hid (Stp w (w3.drewN nq) F _) := H3.out.below ((GM2.out.star (BlkH.good _ _ _)).star (BlkH.good _ _ _)) (below_drewN (Below.refl _ _) _)
  go_wp2_with fail
  refine (Stp.look ((GM2.out.star (BlkH.good _ _ _)).star (BlkH.good _ _ _)) (Looks.left (B := BlkH w.heap.size #[.int .i64 0, .int .i64 0, .int .i64 0, .bool false] 51) (Looks.right (A := MemH p ring cells (l ++ [ldAcc th 1 0 0 v])) (chkFar_any x ring hr2 fr hf rs last ⟨s.st, s.start, v, s.sk, s.word⟩ v ⟨hv1, hv2⟩))) H4.out).mono ?_
  rw [hfar]
  rintro e w5 ⟨rfl, h5⟩
  have H5 := Lib.hid h5
  obtain ⟨c0, c1, rd, c10, c11, c12, c13, c14, c15, fz⟩ := chk_cells h5.has.left.right.blk
  clear h5 H4
  go_wp2_with fail
  refine (Stp.lift (Lifts.left (B := BlkH w.heap.size #[.int .i64 0, .int .i64 0, .int .i64 0, .bool false] 51) GR.out (Lifts.right GM2.out (chkMoves_on x ring fr rs last ⟨s.st, s.start, v, fr + 1, s.word⟩ 1 (by decide)))) ((H5.out).move (Moves.left (BlkH.good _ _ _) (Moves.right GM2.out (BlkH.set 14 _))))).mono ?_
  rintro e w9 ⟨rfl, h9⟩
  have H9 := Lib.hid h9
  obtain ⟨r0, r1, r2, r3, rz⟩ := four_cells h9.has.right.blk
  clear h9
  unfold ansV
  go_wp2_with fail
  refine bodyPost_ret (v := _) (by simp [results, Try.results71, go_sem, r0, r1, r2, r3]; rfl) rfl ?_
  exact ⟨rfl, (((((H9.out).move (Moves.right (GM2.out.star (BlkH.good _ _ _)) (BlkH.set 0 _))).move (Moves.right (GM2.out.star (BlkH.good _ _ _)) (BlkH.set 1 _))).move (Moves.right (GM2.out.star (BlkH.good _ _ _)) (BlkH.set 2 _))).move (Moves.right (GM2.out.star (BlkH.good _ _ _)) (BlkH.set 3 _))).fst⟩
end Go.Proofs.Ytojkeahffabifaa
