/- Layer 7: the program's Step at a head. -/
import Derived.Test.YtkhppganhhmpeaaC7
namespace Go.Proofs.Ytkhppganhhmpeaa
open Go.RowKit
set_option linter.unusedVariables false
set_option maxHeartbeats 4000000 in
theorem begStep_over (p x ring cells : Nat) (l : List Acc) (hlen : l.length ≤ 3000000000000) (seen sk th : Int) (hr1 : 1 ≤ ring) (hr2 : ring ≤ 16) (hk1 : 1 ≤ sk) (hk2 : sk ≤ seen) (hk3 : seen ≤ 9223372036854775807) (ho : overB (wordOf l 2 (slotZ sk ring) 0) sk = true) :
    Lifts Try.prog 13 #[.pointer (some ⟨x, 0, none⟩), .pointer (some ⟨p, 0, none⟩), .int .i64 th] (BStep p x ring cells l ring 1 seen sk) (BStep p x ring cells (l ++ [ldAcc th 2 (slotZ sk ring) 0 (wordOf l 2 (slotZ sk ring) 0)]) ring 2 seen sk) (.returned (ansV 3 0 0 true)) := by
  rintro w F hO
  have hxlt : x < w.heap.size := by
    obtain ⟨_, _, _, hx, _⟩ := hO
    exact heap_lt hx.1
  have hne : x ≠ w.heap.size := by omega
  have hne2 : w.heap.size ≠ x := by omega
  have GM := Lib.hid (MemH.good p ring cells l)
  have GM2 := Lib.hid (MemH.good p ring cells (l ++ [ldAcc th 2 (slotZ sk ring) 0 (wordOf l 2 (slotZ sk ring) 0)]))
  have GR := Lib.hid (BlkH.good w.heap.size #[.int .i64 0, .int .i64 0, .int .i64 0, .bool false] 38)
  have GMX := Lib.hid (BStep.good p x ring cells l ring 1 seen sk)
  have H0 := Lib.hid ((Stp.refl hO).box GMX.out #[.int .i64 0, .int .i64 0, .int .i64 0, .bool false] 38)
  have HS := Lib.hid (Looks.left (B := BlkH w.heap.size #[.int .i64 0, .int .i64 0, .int .i64 0, .bool false] 38) (Looks.left (B := BegH x ring 1 seen sk) (sizes_any p ring cells l)))
  have HL := Lib.hid (Lifts.left (B := BlkH w.heap.size #[.int .i64 0, .int .i64 0, .int .i64 0, .bool false] 38) GR.out (Lifts.left (B := BegH x ring 1 seen sk) (BlkH.good _ _ _) (load_in p ring cells l hlen th 2 (slotZ sk ring) 0 (.inr (.inl ⟨rfl, slotZ_lt sk ring (by omega) (by omega), rfl⟩)))))
  have e1 : ((ring : Int) != (ring : Int)) = false := by simp
  clear hO
  generalize hV : wordOf l 2 (slotZ sk ring) 0 = v at *
  clear hV
  go_enter Try.func13, Try.ntmps13
  go_wp2_with fail
  refine (Stp.look (GMX.out.star GR.out) HS.out H0.out).mono ?_
  rintro e w1 ⟨rfl, h1⟩
  have H1 := Lib.hid h1
  obtain ⟨p0, p1, p2, p3, fz⟩ := four_cells h1.has.left.right.blk
  clear h1 H0 HS
  go_wp2_with fail
  have H1D : Hid (Stp w w1.drew F _) := H1.out.drew (GMX.out.star GR.out)
  go_region_held3 (fun wx => wx.cell? ⟨x, 3, none⟩ = some (.int .i64 sk) ∧ wx.cell? ⟨x, 0, none⟩ = some (.int .i64 ring)) (first | (exact ⟨p3, p0⟩) | (refine ⟨?_, ?_⟩ <;> assumption)) (first | (go_at_call 35; refine (slot_any _ _ _).mono ?_; rintro e w' ⟨rfl, rfl⟩) | (go_at_call 33; refine (Stp.lift HL.out H1D.out).mono ?_; rintro e w2 ⟨rfl, h2⟩; have H2 := Lib.hid h2; obtain ⟨s0, s1, s2, s3, sz⟩ := four_cells h2.has.left.right.blk))
  obtain ⟨r0, r1, r2, r3, rz⟩ := four_cells H2.out.has.right.blk
  clear HL p0 p1 p2 p3 fz H1 H1D
  have p0 := s0
  have p1 := s1
  have p2 := s2
  have p3 := s3
  have fz := sz
  clear s0 s1 s2 s3 sz
  go_wp2_with fail
  refine (over_any v sk _).mono ?_; rintro e w' ⟨rfl, rfl⟩
  rw [ho]
  go_wp2_with fail
  refine (Stp.lift (Lifts.left (B := BlkH w.heap.size #[.int .i64 0, .int .i64 0, .int .i64 0, .bool false] 38) GR.out (Lifts.right GM2.out (begDone_any x _ _ _ _ _))) (H2.out)).mono ?_
  rintro e w4 ⟨rfl, h4⟩
  have H4 := Lib.hid h4
  obtain ⟨r0, r1, r2, r3, rz⟩ := four_cells h4.has.right.blk
  clear h4
  unfold ansV
  go_wp2_with fail
  refine bodyPost_ret (v := _) (by simp [results, Try.results13, go_sem, r0, r1, r2, r3]; rfl) rfl ?_
  exact ⟨rfl, (((((H4.out).move (Moves.right (GM2.out.star (BlkH.good _ _ _)) (BlkH.set 0 _))).move (Moves.right (GM2.out.star (BlkH.good _ _ _)) (BlkH.set 1 _))).move (Moves.right (GM2.out.star (BlkH.good _ _ _)) (BlkH.set 2 _))).move (Moves.right (GM2.out.star (BlkH.good _ _ _)) (BlkH.set 3 _))).fst⟩
set_option maxHeartbeats 4000000 in
theorem begStep_last (p x ring cells : Nat) (l : List Acc) (hlen : l.length ≤ 3000000000000) (seen sk th : Int) (hr1 : 1 ≤ ring) (hr2 : ring ≤ 16) (hk1 : 1 ≤ sk) (hk2 : sk ≤ seen) (hk3 : seen ≤ 9223372036854775807) (ho : overB (wordOf l 2 (slotZ sk ring) 0) sk = false) (hc : sk - 1 < 1) :
    Lifts Try.prog 13 #[.pointer (some ⟨x, 0, none⟩), .pointer (some ⟨p, 0, none⟩), .int .i64 th] (BStep p x ring cells l ring 1 seen sk) (BStep p x ring cells (l ++ [ldAcc th 2 (slotZ sk ring) 0 (wordOf l 2 (slotZ sk ring) 0)]) ring 2 seen (sk - 1)) (.returned (ansV 3 0 0 true)) := by
  rintro w F hO
  have hxlt : x < w.heap.size := by
    obtain ⟨_, _, _, hx, _⟩ := hO
    exact heap_lt hx.1
  have hne : x ≠ w.heap.size := by omega
  have hne2 : w.heap.size ≠ x := by omega
  have GM := Lib.hid (MemH.good p ring cells l)
  have GM2 := Lib.hid (MemH.good p ring cells (l ++ [ldAcc th 2 (slotZ sk ring) 0 (wordOf l 2 (slotZ sk ring) 0)]))
  have GR := Lib.hid (BlkH.good w.heap.size #[.int .i64 0, .int .i64 0, .int .i64 0, .bool false] 38)
  have GMX := Lib.hid (BStep.good p x ring cells l ring 1 seen sk)
  have H0 := Lib.hid ((Stp.refl hO).box GMX.out #[.int .i64 0, .int .i64 0, .int .i64 0, .bool false] 38)
  have HS := Lib.hid (Looks.left (B := BlkH w.heap.size #[.int .i64 0, .int .i64 0, .int .i64 0, .bool false] 38) (Looks.left (B := BegH x ring 1 seen sk) (sizes_any p ring cells l)))
  have HL := Lib.hid (Lifts.left (B := BlkH w.heap.size #[.int .i64 0, .int .i64 0, .int .i64 0, .bool false] 38) GR.out (Lifts.left (B := BegH x ring 1 seen sk) (BlkH.good _ _ _) (load_in p ring cells l hlen th 2 (slotZ sk ring) 0 (.inr (.inl ⟨rfl, slotZ_lt sk ring (by omega) (by omega), rfl⟩)))))
  have e1 : ((ring : Int) != (ring : Int)) = false := by simp
  clear hO
  generalize hV : wordOf l 2 (slotZ sk ring) 0 = v at *
  clear hV
  go_enter Try.func13, Try.ntmps13
  go_wp2_with fail
  refine (Stp.look (GMX.out.star GR.out) HS.out H0.out).mono ?_
  rintro e w1 ⟨rfl, h1⟩
  have H1 := Lib.hid h1
  obtain ⟨p0, p1, p2, p3, fz⟩ := four_cells h1.has.left.right.blk
  clear h1 H0 HS
  go_wp2_with fail
  have H1D : Hid (Stp w w1.drew F _) := H1.out.drew (GMX.out.star GR.out)
  go_region_held3 (fun wx => wx.cell? ⟨x, 3, none⟩ = some (.int .i64 sk) ∧ wx.cell? ⟨x, 0, none⟩ = some (.int .i64 ring)) (first | (exact ⟨p3, p0⟩) | (refine ⟨?_, ?_⟩ <;> assumption)) (first | (go_at_call 35; refine (slot_any _ _ _).mono ?_; rintro e w' ⟨rfl, rfl⟩) | (go_at_call 33; refine (Stp.lift HL.out H1D.out).mono ?_; rintro e w2 ⟨rfl, h2⟩; have H2 := Lib.hid h2; obtain ⟨s0, s1, s2, s3, sz⟩ := four_cells h2.has.left.right.blk))
  obtain ⟨r0, r1, r2, r3, rz⟩ := four_cells H2.out.has.right.blk
  clear HL p0 p1 p2 p3 fz H1 H1D
  have p0 := s0
  have p1 := s1
  have p2 := s2
  have p3 := s3
  have fz := sz
  clear s0 s1 s2 s3 sz
  go_wp2_with fail
  refine (over_any v sk _).mono ?_; rintro e w' ⟨rfl, rfl⟩
  rw [ho]
  have hd : decide (sk - 1 < 1) = true := by simpa using hc
  go_wp2_with fail
  have H3 := Lib.hid ((H2.out).move (Moves.left (BlkH.good _ _ _) (Moves.right GM2.out (BlkH.set 3 (.int .i64 (sk - 1))))))
  clear p0 p1 p2 p3 fz r0 r1 r2 r3 rz h2 H2
  generalize w2.setCell ⟨x, 3, none⟩ (.int .i64 (sk - 1)) = w3 at *
  obtain ⟨p0, p1, p2, p3, fz⟩ := four_cells H3.out.has.left.right.blk
  obtain ⟨r0, r1, r2, r3, rz⟩ := four_cells H3.out.has.right.blk
  go_quiet (fail)
  have H3D := Lib.hid (H3.out.below ((GM2.out.star (BlkH.good _ _ _)).star (BlkH.good _ _ _)) (below_drewN (Below.refl _ w3) nq))
  go_wp2_with fail
  refine (Stp.lift (Lifts.left (B := BlkH w.heap.size #[.int .i64 0, .int .i64 0, .int .i64 0, .bool false] 38) GR.out (Lifts.right GM2.out (begDone_any x _ _ _ _ _))) H3D.out).mono ?_
  rintro e w4 ⟨rfl, h4⟩
  have H4 := Lib.hid h4
  obtain ⟨r0, r1, r2, r3, rz⟩ := four_cells h4.has.right.blk
  clear h4
  unfold ansV
  go_wp2_with fail
  refine bodyPost_ret (v := _) (by simp [results, Try.results13, go_sem, r0, r1, r2, r3]; rfl) rfl ?_
  exact ⟨rfl, (((((H4.out).move (Moves.right (GM2.out.star (BlkH.good _ _ _)) (BlkH.set 0 _))).move (Moves.right (GM2.out.star (BlkH.good _ _ _)) (BlkH.set 1 _))).move (Moves.right (GM2.out.star (BlkH.good _ _ _)) (BlkH.set 2 _))).move (Moves.right (GM2.out.star (BlkH.good _ _ _)) (BlkH.set 3 _))).fst⟩
set_option maxHeartbeats 4000000 in
theorem begStep_lap (p x ring cells : Nat) (l : List Acc) (hlen : l.length ≤ 3000000000000) (seen sk th : Int) (hr1 : 1 ≤ ring) (hr2 : ring ≤ 16) (hk1 : 1 ≤ sk) (hk2 : sk ≤ seen) (hk3 : seen ≤ 9223372036854775807) (ho : overB (wordOf l 2 (slotZ sk ring) 0) sk = false) (hc : ¬ sk - 1 < 1) (hq : sk - 1 = seen - ring) :
    Lifts Try.prog 13 #[.pointer (some ⟨x, 0, none⟩), .pointer (some ⟨p, 0, none⟩), .int .i64 th] (BStep p x ring cells l ring 1 seen sk) (BStep p x ring cells (l ++ [ldAcc th 2 (slotZ sk ring) 0 (wordOf l 2 (slotZ sk ring) 0)]) ring 2 seen (sk - 1)) (.returned (ansV 3 0 0 true)) := by
  rintro w F hO
  have hxlt : x < w.heap.size := by
    obtain ⟨_, _, _, hx, _⟩ := hO
    exact heap_lt hx.1
  have hne : x ≠ w.heap.size := by omega
  have hne2 : w.heap.size ≠ x := by omega
  have GM := Lib.hid (MemH.good p ring cells l)
  have GM2 := Lib.hid (MemH.good p ring cells (l ++ [ldAcc th 2 (slotZ sk ring) 0 (wordOf l 2 (slotZ sk ring) 0)]))
  have GR := Lib.hid (BlkH.good w.heap.size #[.int .i64 0, .int .i64 0, .int .i64 0, .bool false] 38)
  have GMX := Lib.hid (BStep.good p x ring cells l ring 1 seen sk)
  have H0 := Lib.hid ((Stp.refl hO).box GMX.out #[.int .i64 0, .int .i64 0, .int .i64 0, .bool false] 38)
  have HS := Lib.hid (Looks.left (B := BlkH w.heap.size #[.int .i64 0, .int .i64 0, .int .i64 0, .bool false] 38) (Looks.left (B := BegH x ring 1 seen sk) (sizes_any p ring cells l)))
  have HL := Lib.hid (Lifts.left (B := BlkH w.heap.size #[.int .i64 0, .int .i64 0, .int .i64 0, .bool false] 38) GR.out (Lifts.left (B := BegH x ring 1 seen sk) (BlkH.good _ _ _) (load_in p ring cells l hlen th 2 (slotZ sk ring) 0 (.inr (.inl ⟨rfl, slotZ_lt sk ring (by omega) (by omega), rfl⟩)))))
  have e1 : ((ring : Int) != (ring : Int)) = false := by simp
  clear hO
  generalize hV : wordOf l 2 (slotZ sk ring) 0 = v at *
  clear hV
  go_enter Try.func13, Try.ntmps13
  go_wp2_with fail
  refine (Stp.look (GMX.out.star GR.out) HS.out H0.out).mono ?_
  rintro e w1 ⟨rfl, h1⟩
  have H1 := Lib.hid h1
  obtain ⟨p0, p1, p2, p3, fz⟩ := four_cells h1.has.left.right.blk
  clear h1 H0 HS
  go_wp2_with fail
  have H1D : Hid (Stp w w1.drew F _) := H1.out.drew (GMX.out.star GR.out)
  go_region_held3 (fun wx => wx.cell? ⟨x, 3, none⟩ = some (.int .i64 sk) ∧ wx.cell? ⟨x, 0, none⟩ = some (.int .i64 ring)) (first | (exact ⟨p3, p0⟩) | (refine ⟨?_, ?_⟩ <;> assumption)) (first | (go_at_call 35; refine (slot_any _ _ _).mono ?_; rintro e w' ⟨rfl, rfl⟩) | (go_at_call 33; refine (Stp.lift HL.out H1D.out).mono ?_; rintro e w2 ⟨rfl, h2⟩; have H2 := Lib.hid h2; obtain ⟨s0, s1, s2, s3, sz⟩ := four_cells h2.has.left.right.blk))
  obtain ⟨r0, r1, r2, r3, rz⟩ := four_cells H2.out.has.right.blk
  clear HL p0 p1 p2 p3 fz H1 H1D
  have p0 := s0
  have p1 := s1
  have p2 := s2
  have p3 := s3
  have fz := sz
  clear s0 s1 s2 s3 sz
  go_wp2_with fail
  refine (over_any v sk _).mono ?_; rintro e w' ⟨rfl, rfl⟩
  rw [ho]
  have hd : decide (sk - 1 < 1) = false := by simpa using hc
  have hq1 : (sk - 1 == seen - (ring : Int)) = true := by simp [hq]
  clear hq
  go_wp2_with fail
  have H3 := Lib.hid ((H2.out).move (Moves.left (BlkH.good _ _ _) (Moves.right GM2.out (BlkH.set 3 (.int .i64 (sk - 1))))))
  clear p0 p1 p2 p3 fz r0 r1 r2 r3 rz h2 H2
  generalize w2.setCell ⟨x, 3, none⟩ (.int .i64 (sk - 1)) = w3 at *
  obtain ⟨p0, p1, p2, p3, fz⟩ := four_cells H3.out.has.left.right.blk
  obtain ⟨r0, r1, r2, r3, rz⟩ := four_cells H3.out.has.right.blk
  go_quiet (fail)
  have H3D := Lib.hid (H3.out.below ((GM2.out.star (BlkH.good _ _ _)).star (BlkH.good _ _ _)) (below_drewN (Below.refl _ w3) nq))
  go_wp2_with fail
  refine (Stp.lift (Lifts.left (B := BlkH w.heap.size #[.int .i64 0, .int .i64 0, .int .i64 0, .bool false] 38) GR.out (Lifts.right GM2.out (begDone_any x _ _ _ _ _))) H3D.out).mono ?_
  rintro e w4 ⟨rfl, h4⟩
  have H4 := Lib.hid h4
  obtain ⟨r0, r1, r2, r3, rz⟩ := four_cells h4.has.right.blk
  clear h4
  unfold ansV
  go_wp2_with fail
  refine bodyPost_ret (v := _) (by simp [results, Try.results13, go_sem, r0, r1, r2, r3]; rfl) rfl ?_
  exact ⟨rfl, (((((H4.out).move (Moves.right (GM2.out.star (BlkH.good _ _ _)) (BlkH.set 0 _))).move (Moves.right (GM2.out.star (BlkH.good _ _ _)) (BlkH.set 1 _))).move (Moves.right (GM2.out.star (BlkH.good _ _ _)) (BlkH.set 2 _))).move (Moves.right (GM2.out.star (BlkH.good _ _ _)) (BlkH.set 3 _))).fst⟩
set_option maxHeartbeats 4000000 in
theorem begStep_on (p x ring cells : Nat) (l : List Acc) (hlen : l.length ≤ 3000000000000) (seen sk th : Int) (hr1 : 1 ≤ ring) (hr2 : ring ≤ 16) (hk1 : 1 ≤ sk) (hk2 : sk ≤ seen) (hk3 : seen ≤ 9223372036854775807) (ho : overB (wordOf l 2 (slotZ sk ring) 0) sk = false) (hc : ¬ sk - 1 < 1) (hq : sk - 1 ≠ seen - ring) :
    Lifts Try.prog 13 #[.pointer (some ⟨x, 0, none⟩), .pointer (some ⟨p, 0, none⟩), .int .i64 th] (BStep p x ring cells l ring 1 seen sk) (BStep p x ring cells (l ++ [ldAcc th 2 (slotZ sk ring) 0 (wordOf l 2 (slotZ sk ring) 0)]) ring 1 seen (sk - 1)) (.returned (ansV 2 0 0 true)) := by
  rintro w F hO
  have hxlt : x < w.heap.size := by
    obtain ⟨_, _, _, hx, _⟩ := hO
    exact heap_lt hx.1
  have hne : x ≠ w.heap.size := by omega
  have hne2 : w.heap.size ≠ x := by omega
  have GM := Lib.hid (MemH.good p ring cells l)
  have GM2 := Lib.hid (MemH.good p ring cells (l ++ [ldAcc th 2 (slotZ sk ring) 0 (wordOf l 2 (slotZ sk ring) 0)]))
  have GR := Lib.hid (BlkH.good w.heap.size #[.int .i64 0, .int .i64 0, .int .i64 0, .bool false] 38)
  have GMX := Lib.hid (BStep.good p x ring cells l ring 1 seen sk)
  have H0 := Lib.hid ((Stp.refl hO).box GMX.out #[.int .i64 0, .int .i64 0, .int .i64 0, .bool false] 38)
  have HS := Lib.hid (Looks.left (B := BlkH w.heap.size #[.int .i64 0, .int .i64 0, .int .i64 0, .bool false] 38) (Looks.left (B := BegH x ring 1 seen sk) (sizes_any p ring cells l)))
  have HL := Lib.hid (Lifts.left (B := BlkH w.heap.size #[.int .i64 0, .int .i64 0, .int .i64 0, .bool false] 38) GR.out (Lifts.left (B := BegH x ring 1 seen sk) (BlkH.good _ _ _) (load_in p ring cells l hlen th 2 (slotZ sk ring) 0 (.inr (.inl ⟨rfl, slotZ_lt sk ring (by omega) (by omega), rfl⟩)))))
  have e1 : ((ring : Int) != (ring : Int)) = false := by simp
  clear hO
  generalize hV : wordOf l 2 (slotZ sk ring) 0 = v at *
  clear hV
  go_enter Try.func13, Try.ntmps13
  go_wp2_with fail
  refine (Stp.look (GMX.out.star GR.out) HS.out H0.out).mono ?_
  rintro e w1 ⟨rfl, h1⟩
  have H1 := Lib.hid h1
  obtain ⟨p0, p1, p2, p3, fz⟩ := four_cells h1.has.left.right.blk
  clear h1 H0 HS
  go_wp2_with fail
  have H1D : Hid (Stp w w1.drew F _) := H1.out.drew (GMX.out.star GR.out)
  go_region_held3 (fun wx => wx.cell? ⟨x, 3, none⟩ = some (.int .i64 sk) ∧ wx.cell? ⟨x, 0, none⟩ = some (.int .i64 ring)) (first | (exact ⟨p3, p0⟩) | (refine ⟨?_, ?_⟩ <;> assumption)) (first | (go_at_call 35; refine (slot_any _ _ _).mono ?_; rintro e w' ⟨rfl, rfl⟩) | (go_at_call 33; refine (Stp.lift HL.out H1D.out).mono ?_; rintro e w2 ⟨rfl, h2⟩; have H2 := Lib.hid h2; obtain ⟨s0, s1, s2, s3, sz⟩ := four_cells h2.has.left.right.blk))
  obtain ⟨r0, r1, r2, r3, rz⟩ := four_cells H2.out.has.right.blk
  clear HL p0 p1 p2 p3 fz H1 H1D
  have p0 := s0
  have p1 := s1
  have p2 := s2
  have p3 := s3
  have fz := sz
  clear s0 s1 s2 s3 sz
  go_wp2_with fail
  refine (over_any v sk _).mono ?_; rintro e w' ⟨rfl, rfl⟩
  rw [ho]
  have hd : decide (sk - 1 < 1) = false := by simpa using hc
  have hq1 : (sk - 1 == seen - (ring : Int)) = false := by simp [hq]
  clear hq
  go_wp2_with fail
  have H3 := Lib.hid ((H2.out).move (Moves.left (BlkH.good _ _ _) (Moves.right GM2.out (BlkH.set 3 (.int .i64 (sk - 1))))))
  clear p0 p1 p2 p3 fz r0 r1 r2 r3 rz h2 H2
  generalize w2.setCell ⟨x, 3, none⟩ (.int .i64 (sk - 1)) = w3 at *
  obtain ⟨p0, p1, p2, p3, fz⟩ := four_cells H3.out.has.left.right.blk
  obtain ⟨r0, r1, r2, r3, rz⟩ := four_cells H3.out.has.right.blk
  go_quiet (fail)
  have H3D := Lib.hid (H3.out.below ((GM2.out.star (BlkH.good _ _ _)).star (BlkH.good _ _ _)) (below_drewN (Below.refl _ w3) nq))
  go_wp2_with fail
  refine bodyPost_ret (v := _) (by simp [results, Try.results13, go_sem, r0, r1, r2, r3]; rfl) rfl ?_
  exact ⟨rfl, (((((H3D.out).move (Moves.right (GM2.out.star (BlkH.good _ _ _)) (BlkH.set 0 _))).move (Moves.right (GM2.out.star (BlkH.good _ _ _)) (BlkH.set 1 _))).move (Moves.right (GM2.out.star (BlkH.good _ _ _)) (BlkH.set 2 _))).move (Moves.right (GM2.out.star (BlkH.good _ _ _)) (BlkH.set 3 _))).fst⟩
end Go.Proofs.Ytkhppganhhmpeaa
