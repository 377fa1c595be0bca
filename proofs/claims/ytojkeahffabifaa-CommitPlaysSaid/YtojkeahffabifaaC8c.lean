/- Layer 8: the program's head. -/
import Derived.Test.YtojkeahffabifaaC8b
import Derived.Test.YtojkeahffabifaaC1b
import Derived.Deep.RegionHeld3
namespace Go.Proofs.Ytojkeahffabifaa
open Go.RowKit
set_option linter.unusedVariables false
theorem done_q (v : Int) (b : Bool) (hb : (v % 2 == 1) = b) (w : World) : Calls Try.prog 67 #[.int .i64 v] w fun e w' => e = .returned (.bool b) ∧ w' = w := by
  subst hb
  exact (done_any v w).mono fun _ _ h => ⟨h.1, h.2.symm⟩
set_option maxHeartbeats 2000000 in
theorem chkHead_wait (p x ring cells : Nat) (l : List Acc) (hlen : l.length ≤ 3000000000000) (hr1 : 1 ≤ ring) (hr2 : ring ≤ 16) (fr : Int) (hf : 0 ≤ fr) (rs : Nat → Int) (hrs : Wds rs) (last : Bool) (s : CS) (th : Int) (hvI : I64 (wordOf l 2 (slotZ s.sk ring) 0)) (hk1 : 1 ≤ s.sk) (hk2 : s.sk ≤ 9223372036854775807) (hc : wordOf l 2 (slotZ s.sk ring) 0 / 2 < s.sk) :
    Lifts Try.prog 72 #[.pointer (some ⟨x, 0, none⟩), .pointer (some ⟨p, 0, none⟩), .int .i64 th] (CStep p x ring cells l ring fr rs last s) (CStep p x ring cells (l ++ [ldAcc th 2 (slotZ s.sk ring) 0 (wordOf l 2 (slotZ s.sk ring) 0)]) ring fr rs last s) (.returned (ansV 1 0 0 true)) := by
  rintro w F hO
  have hxlt : x < w.heap.size := by
    obtain ⟨_, _, _, hx, _⟩ := hO
    exact heap_lt hx.1
  have hne : x ≠ w.heap.size := by omega
  have hne2 : w.heap.size ≠ x := by omega
  have GM2 := Lib.hid (MemH.good p ring cells (l ++ [ldAcc th 2 (slotZ s.sk ring) 0 (wordOf l 2 (slotZ s.sk ring) 0)]))
  have GR := Lib.hid (BlkH.good w.heap.size #[.int .i64 0, .int .i64 0, .int .i64 0, .bool false] 51)
  have GMX := Lib.hid (CStep.good p x ring cells l ring fr rs last s)
  have H0 := Lib.hid ((Stp.refl hO).box GMX.out #[.int .i64 0, .int .i64 0, .int .i64 0, .bool false] 51)
  have HL := Lib.hid (Lifts.left (B := BlkH w.heap.size #[.int .i64 0, .int .i64 0, .int .i64 0, .bool false] 51) GR.out (Lifts.left (B := ChkH x ring fr rs last s) (BlkH.good _ _ _) (load_in p ring cells l hlen th 2 (slotZ s.sk ring) 0 (.inr (.inl ⟨rfl, slotZ_lt s.sk ring (by omega) (by omega), rfl⟩)))))
  have HWR := Lib.hid hrs
  clear hO hrs
  generalize hV : wordOf l 2 (slotZ s.sk ring) 0 = v at *
  clear hV
  obtain ⟨hv1, hv2⟩ := hvI
  go_enter Try.func72, Try.ntmps72
  go_wp2_with fail
  have H0D : Hid (Stp w (w.alloc (.cells #[.int .i64 0, .int .i64 0, .int .i64 0, .bool false] 51)).drew F _) := H0.out.drew (GMX.out.star GR.out)
  obtain ⟨c0, c1, rd, c10, c11, c12, c13, c14, c15, fz⟩ := chk_cells H0D.out.has.left.right.blk
  clear rd
  go_region_held3 (fun wx => wx.cell? ⟨x, 14, none⟩ = some (.int .i64 s.sk) ∧ wx.cell? ⟨x, 0, none⟩ = some (.int .i64 ring)) (first | (exact ⟨c14, c0⟩) | (refine ⟨?_, ?_⟩ <;> assumption)) (first | (go_at_call 69; refine (slot_any _ _ _).mono ?_; rintro e w' ⟨rfl, rfl⟩) | (go_at_call 68; refine (Stp.lift HL.out H0D.out).mono ?_; rintro e w2 ⟨rfl, h2⟩; have H2 := Lib.hid h2; have k0 := (chk_cells h2.has.left.right.blk).c0; have k14 := (chk_cells h2.has.left.right.blk).c14))
  clear HL c0 c1 c10 c11 c12 c13 c14 c15 fz H0 H0D h2 k0 k14
  obtain ⟨c0, c1, rd, c10, c11, c12, c13, c14, c15, fz⟩ := chk_cells H2.out.has.left.right.blk
  clear rd
  obtain ⟨r0, r1, r2, r3, rz⟩ := four_cells H2.out.has.right.blk
  go_wp2_with fail
  refine (stamp_any v _).mono ?_; rintro e w' ⟨rfl, rfl⟩
  go_wp2_with fail
  refine bodyPost_ret (v := _) (by simp [results, Try.results72, go_sem, r0, r1, r2, r3]; rfl) rfl ?_
  exact ⟨rfl, (((((H2.out).move (Moves.right (GM2.out.star (BlkH.good _ _ _)) (BlkH.set 0 _))).move (Moves.right (GM2.out.star (BlkH.good _ _ _)) (BlkH.set 1 _))).move (Moves.right (GM2.out.star (BlkH.good _ _ _)) (BlkH.set 2 _))).move (Moves.right (GM2.out.star (BlkH.good _ _ _)) (BlkH.set 3 _))).fst⟩
set_option maxHeartbeats 2000000 in
theorem chkHead_over (p x ring cells : Nat) (l : List Acc) (hlen : l.length ≤ 3000000000000) (hr1 : 1 ≤ ring) (hr2 : ring ≤ 16) (fr : Int) (hf : 0 ≤ fr) (rs : Nat → Int) (hrs : Wds rs) (last : Bool) (s : CS) (th : Int) (hvI : I64 (wordOf l 2 (slotZ s.sk ring) 0)) (hk1 : 1 ≤ s.sk) (hk2 : s.sk ≤ 9223372036854775807) (hc : ¬ wordOf l 2 (slotZ s.sk ring) 0 / 2 < s.sk) (hg : s.sk < wordOf l 2 (slotZ s.sk ring) 0 / 2) :
    Lifts Try.prog 72 #[.pointer (some ⟨x, 0, none⟩), .pointer (some ⟨p, 0, none⟩), .int .i64 th] (CStep p x ring cells l ring fr rs last s) (CStep p x ring cells (l ++ [ldAcc th 2 (slotZ s.sk ring) 0 (wordOf l 2 (slotZ s.sk ring) 0)]) ring fr rs last ⟨5, s.start, s.seen, s.sk, s.word⟩) (.returned (ansV 4 4 0 true)) := by
  rintro w F hO
  have hxlt : x < w.heap.size := by
    obtain ⟨_, _, _, hx, _⟩ := hO
    exact heap_lt hx.1
  have hne : x ≠ w.heap.size := by omega
  have hne2 : w.heap.size ≠ x := by omega
  have GM2 := Lib.hid (MemH.good p ring cells (l ++ [ldAcc th 2 (slotZ s.sk ring) 0 (wordOf l 2 (slotZ s.sk ring) 0)]))
  have GR := Lib.hid (BlkH.good w.heap.size #[.int .i64 0, .int .i64 0, .int .i64 0, .bool false] 51)
  have GMX := Lib.hid (CStep.good p x ring cells l ring fr rs last s)
  have H0 := Lib.hid ((Stp.refl hO).box GMX.out #[.int .i64 0, .int .i64 0, .int .i64 0, .bool false] 51)
  have HL := Lib.hid (Lifts.left (B := BlkH w.heap.size #[.int .i64 0, .int .i64 0, .int .i64 0, .bool false] 51) GR.out (Lifts.left (B := ChkH x ring fr rs last s) (BlkH.good _ _ _) (load_in p ring cells l hlen th 2 (slotZ s.sk ring) 0 (.inr (.inl ⟨rfl, slotZ_lt s.sk ring (by omega) (by omega), rfl⟩)))))
  have HWR := Lib.hid hrs
  clear hO hrs
  generalize hV : wordOf l 2 (slotZ s.sk ring) 0 = v at *
  clear hV
  obtain ⟨hv1, hv2⟩ := hvI
  go_enter Try.func72, Try.ntmps72
  go_wp2_with fail
  have H0D : Hid (Stp w (w.alloc (.cells #[.int .i64 0, .int .i64 0, .int .i64 0, .bool false] 51)).drew F _) := H0.out.drew (GMX.out.star GR.out)
  obtain ⟨c0, c1, rd, c10, c11, c12, c13, c14, c15, fz⟩ := chk_cells H0D.out.has.left.right.blk
  clear rd
  go_region_held3 (fun wx => wx.cell? ⟨x, 14, none⟩ = some (.int .i64 s.sk) ∧ wx.cell? ⟨x, 0, none⟩ = some (.int .i64 ring)) (first | (exact ⟨c14, c0⟩) | (refine ⟨?_, ?_⟩ <;> assumption)) (first | (go_at_call 69; refine (slot_any _ _ _).mono ?_; rintro e w' ⟨rfl, rfl⟩) | (go_at_call 68; refine (Stp.lift HL.out H0D.out).mono ?_; rintro e w2 ⟨rfl, h2⟩; have H2 := Lib.hid h2; have k0 := (chk_cells h2.has.left.right.blk).c0; have k14 := (chk_cells h2.has.left.right.blk).c14))
  clear HL c0 c1 c10 c11 c12 c13 c14 c15 fz H0 H0D h2 k0 k14
  obtain ⟨c0, c1, rd, c10, c11, c12, c13, c14, c15, fz⟩ := chk_cells H2.out.has.left.right.blk
  clear rd
  obtain ⟨r0, r1, r2, r3, rz⟩ := four_cells H2.out.has.right.blk
  go_wp2_with fail
  refine (stamp_any v _).mono ?_; rintro e w' ⟨rfl, rfl⟩
  go_wp2_with fail
  refine (Stp.lift (Lifts.left (B := BlkH w.heap.size #[.int .i64 0, .int .i64 0, .int .i64 0, .bool false] 51) GR.out (Lifts.right GM2.out (chkFails_any x ring fr rs last s 4))) (H2.out)).mono ?_
  rintro e w9 ⟨rfl, h9⟩
  have H9 := Lib.hid h9
  obtain ⟨r0, r1, r2, r3, rz⟩ := four_cells h9.has.right.blk
  clear h9
  unfold ansV
  go_wp2_with fail
  refine bodyPost_ret (v := _) (by simp [results, Try.results72, go_sem, r0, r1, r2, r3]; rfl) rfl ?_
  exact ⟨rfl, (((((H9.out).move (Moves.right (GM2.out.star (BlkH.good _ _ _)) (BlkH.set 0 _))).move (Moves.right (GM2.out.star (BlkH.good _ _ _)) (BlkH.set 1 _))).move (Moves.right (GM2.out.star (BlkH.good _ _ _)) (BlkH.set 2 _))).move (Moves.right (GM2.out.star (BlkH.good _ _ _)) (BlkH.set 3 _))).fst⟩
set_option maxHeartbeats 2000000 in
theorem chkHead_more (p x ring cells : Nat) (l : List Acc) (hlen : l.length ≤ 3000000000000) (hr1 : 1 ≤ ring) (hr2 : ring ≤ 16) (fr : Int) (hf : 0 ≤ fr) (rs : Nat → Int) (hrs : Wds rs) (last : Bool) (s : CS) (th : Int) (hvI : I64 (wordOf l 2 (slotZ s.sk ring) 0)) (hk1 : 1 ≤ s.sk) (hk2 : s.sk ≤ 9223372036854775807) (hc : wordOf l 2 (slotZ s.sk ring) 0 / 2 = s.sk) (hd : wordOf l 2 (slotZ s.sk ring) 0 % 2 = 1) (hs : s.start = s.sk - 1) :
    Lifts Try.prog 72 #[.pointer (some ⟨x, 0, none⟩), .pointer (some ⟨p, 0, none⟩), .int .i64 th] (CStep p x ring cells l ring fr rs last s) (CStep p x ring cells (l ++ [ldAcc th 2 (slotZ s.sk ring) 0 (wordOf l 2 (slotZ s.sk ring) 0)]) ring fr rs last ⟨2, s.sk, s.seen, s.sk, (nextW rs 0)⟩) (.returned (ansV 2 0 0 true)) := by
  rintro w F hO
  have hxlt : x < w.heap.size := by
    obtain ⟨_, _, _, hx, _⟩ := hO
    exact heap_lt hx.1
  have hne : x ≠ w.heap.size := by omega
  have hne2 : w.heap.size ≠ x := by omega
  have GM2 := Lib.hid (MemH.good p ring cells (l ++ [ldAcc th 2 (slotZ s.sk ring) 0 (wordOf l 2 (slotZ s.sk ring) 0)]))
  have GR := Lib.hid (BlkH.good w.heap.size #[.int .i64 0, .int .i64 0, .int .i64 0, .bool false] 51)
  have GMX := Lib.hid (CStep.good p x ring cells l ring fr rs last s)
  have H0 := Lib.hid ((Stp.refl hO).box GMX.out #[.int .i64 0, .int .i64 0, .int .i64 0, .bool false] 51)
  have HL := Lib.hid (Lifts.left (B := BlkH w.heap.size #[.int .i64 0, .int .i64 0, .int .i64 0, .bool false] 51) GR.out (Lifts.left (B := ChkH x ring fr rs last s) (BlkH.good _ _ _) (load_in p ring cells l hlen th 2 (slotZ s.sk ring) 0 (.inr (.inl ⟨rfl, slotZ_lt s.sk ring (by omega) (by omega), rfl⟩)))))
  have HWR := Lib.hid hrs
  clear hO hrs
  generalize hV : wordOf l 2 (slotZ s.sk ring) 0 = v at *
  clear hV
  obtain ⟨hv1, hv2⟩ := hvI
  go_enter Try.func72, Try.ntmps72
  go_wp2_with fail
  have H0D : Hid (Stp w (w.alloc (.cells #[.int .i64 0, .int .i64 0, .int .i64 0, .bool false] 51)).drew F _) := H0.out.drew (GMX.out.star GR.out)
  obtain ⟨c0, c1, rd, c10, c11, c12, c13, c14, c15, fz⟩ := chk_cells H0D.out.has.left.right.blk
  clear rd
  go_region_held3 (fun wx => wx.cell? ⟨x, 14, none⟩ = some (.int .i64 s.sk) ∧ wx.cell? ⟨x, 0, none⟩ = some (.int .i64 ring)) (first | (exact ⟨c14, c0⟩) | (refine ⟨?_, ?_⟩ <;> assumption)) (first | (go_at_call 69; refine (slot_any _ _ _).mono ?_; rintro e w' ⟨rfl, rfl⟩) | (go_at_call 68; refine (Stp.lift HL.out H0D.out).mono ?_; rintro e w2 ⟨rfl, h2⟩; have H2 := Lib.hid h2; have k0 := (chk_cells h2.has.left.right.blk).c0; have k14 := (chk_cells h2.has.left.right.blk).c14))
  clear HL c0 c1 c10 c11 c12 c13 c14 c15 fz H0 H0D h2 k0 k14
  obtain ⟨c0, c1, rd, c10, c11, c12, c13, c14, c15, fz⟩ := chk_cells H2.out.has.left.right.blk
  clear rd
  obtain ⟨r0, r1, r2, r3, rz⟩ := four_cells H2.out.has.right.blk
  go_wp2_with fail
  refine (stamp_any v _).mono ?_; rintro e w' ⟨rfl, rfl⟩
  have hcn : decide (v / 2 < s.sk) = false := by simp; omega
  have hgn : decide (s.sk < v / 2) = false := by simp; omega
  have e1 : (v % 2 == 1) = true := by simp [hd]
  have e2 : (s.start == s.sk - 1) = true := by simp [hs]
  clear hd hs
  go_wp2_with fail
  go_quiet ((go_at_call 67; refine Calls.quiet_of_same (done_q v _ e1 _)))
  have H4 : Hid (Stp w (w2.drewN nq) F _) := H2.out.below ((GM2.out.star (BlkH.good _ _ _)).star (BlkH.good _ _ _)) (below_drewN (Below.refl _ _) _)
  go_wp2_with fail
  refine (Stp.look ((GM2.out.star (BlkH.good _ _ _)).star (BlkH.good _ _ _)) (Looks.left (B := BlkH w.heap.size #[.int .i64 0, .int .i64 0, .int .i64 0, .bool false] 51) (Looks.right (A := MemH p ring cells (l ++ [ldAcc th 2 (slotZ s.sk ring) 0 v])) (chkBehind_any x ring fr rs last ⟨s.st, s.sk, s.seen, s.sk, s.word⟩ (-1) 0 (by decide) (by decide)))) ((H4.out).move (Moves.left (BlkH.good _ _ _) (Moves.right GM2.out (BlkH.set 12 _))))).mono ?_
  rintro e w5 ⟨rfl, h5⟩
  have H5 := Lib.hid h5
  obtain ⟨c0, c1, rd, c10, c11, c12, c13, c14, c15, fz⟩ := chk_cells h5.has.left.right.blk
  clear h5 H4
  go_wp2_with fail
  refine (Stp.lift (Lifts.left (B := BlkH w.heap.size #[.int .i64 0, .int .i64 0, .int .i64 0, .bool false] 51) GR.out (Lifts.right GM2.out (chkMoves_on x ring fr rs last ⟨s.st, s.sk, s.seen, s.sk, (nextW rs 0)⟩ 2 (by decide)))) ((H5.out).move (Moves.left (BlkH.good _ _ _) (Moves.right GM2.out (BlkH.set 15 _))))).mono ?_
  rintro e w9 ⟨rfl, h9⟩
  have H9 := Lib.hid h9
  obtain ⟨r0, r1, r2, r3, rz⟩ := four_cells h9.has.right.blk
  clear h9
  unfold ansV
  go_wp2_with fail
  refine bodyPost_ret (v := _) (by simp [results, Try.results72, go_sem, r0, r1, r2, r3]; rfl) rfl ?_
  exact ⟨rfl, (((((H9.out).move (Moves.right (GM2.out.star (BlkH.good _ _ _)) (BlkH.set 0 _))).move (Moves.right (GM2.out.star (BlkH.good _ _ _)) (BlkH.set 1 _))).move (Moves.right (GM2.out.star (BlkH.good _ _ _)) (BlkH.set 2 _))).move (Moves.right (GM2.out.star (BlkH.good _ _ _)) (BlkH.set 3 _))).fst⟩
set_option maxHeartbeats 2000000 in
theorem chkHead_raw (p x ring cells : Nat) (l : List Acc) (hlen : l.length ≤ 3000000000000) (hr1 : 1 ≤ ring) (hr2 : ring ≤ 16) (fr : Int) (hf : 0 ≤ fr) (rs : Nat → Int) (hrs : Wds rs) (last : Bool) (s : CS) (th : Int) (hvI : I64 (wordOf l 2 (slotZ s.sk ring) 0)) (hk1 : 1 ≤ s.sk) (hk2 : s.sk ≤ 9223372036854775807) (hc : wordOf l 2 (slotZ s.sk ring) 0 / 2 = s.sk) (hd : wordOf l 2 (slotZ s.sk ring) 0 % 2 ≠ 1) :
    Lifts Try.prog 72 #[.pointer (some ⟨x, 0, none⟩), .pointer (some ⟨p, 0, none⟩), .int .i64 th] (CStep p x ring cells l ring fr rs last s) (CStep p x ring cells (l ++ [ldAcc th 2 (slotZ s.sk ring) 0 (wordOf l 2 (slotZ s.sk ring) 0)]) ring fr rs last ⟨2, s.start, s.seen, s.sk, (nextW rs 0)⟩) (.returned (ansV 2 0 0 true)) := by
  rintro w F hO
  have hxlt : x < w.heap.size := by
    obtain ⟨_, _, _, hx, _⟩ := hO
    exact heap_lt hx.1
  have hne : x ≠ w.heap.size := by omega
  have hne2 : w.heap.size ≠ x := by omega
  have GM2 := Lib.hid (MemH.good p ring cells (l ++ [ldAcc th 2 (slotZ s.sk ring) 0 (wordOf l 2 (slotZ s.sk ring) 0)]))
  have GR := Lib.hid (BlkH.good w.heap.size #[.int .i64 0, .int .i64 0, .int .i64 0, .bool false] 51)
  have GMX := Lib.hid (CStep.good p x ring cells l ring fr rs last s)
  have H0 := Lib.hid ((Stp.refl hO).box GMX.out #[.int .i64 0, .int .i64 0, .int .i64 0, .bool false] 51)
  have HL := Lib.hid (Lifts.left (B := BlkH w.heap.size #[.int .i64 0, .int .i64 0, .int .i64 0, .bool false] 51) GR.out (Lifts.left (B := ChkH x ring fr rs last s) (BlkH.good _ _ _) (load_in p ring cells l hlen th 2 (slotZ s.sk ring) 0 (.inr (.inl ⟨rfl, slotZ_lt s.sk ring (by omega) (by omega), rfl⟩)))))
  have HWR := Lib.hid hrs
  clear hO hrs
  generalize hV : wordOf l 2 (slotZ s.sk ring) 0 = v at *
  clear hV
  obtain ⟨hv1, hv2⟩ := hvI
  go_enter Try.func72, Try.ntmps72
  go_wp2_with fail
  have H0D : Hid (Stp w (w.alloc (.cells #[.int .i64 0, .int .i64 0, .int .i64 0, .bool false] 51)).drew F _) := H0.out.drew (GMX.out.star GR.out)
  obtain ⟨c0, c1, rd, c10, c11, c12, c13, c14, c15, fz⟩ := chk_cells H0D.out.has.left.right.blk
  clear rd
  go_region_held3 (fun wx => wx.cell? ⟨x, 14, none⟩ = some (.int .i64 s.sk) ∧ wx.cell? ⟨x, 0, none⟩ = some (.int .i64 ring)) (first | (exact ⟨c14, c0⟩) | (refine ⟨?_, ?_⟩ <;> assumption)) (first | (go_at_call 69; refine (slot_any _ _ _).mono ?_; rintro e w' ⟨rfl, rfl⟩) | (go_at_call 68; refine (Stp.lift HL.out H0D.out).mono ?_; rintro e w2 ⟨rfl, h2⟩; have H2 := Lib.hid h2; have k0 := (chk_cells h2.has.left.right.blk).c0; have k14 := (chk_cells h2.has.left.right.blk).c14))
  clear HL c0 c1 c10 c11 c12 c13 c14 c15 fz H0 H0D h2 k0 k14
  obtain ⟨c0, c1, rd, c10, c11, c12, c13, c14, c15, fz⟩ := chk_cells H2.out.has.left.right.blk
  clear rd
  obtain ⟨r0, r1, r2, r3, rz⟩ := four_cells H2.out.has.right.blk
  go_wp2_with fail
  refine (stamp_any v _).mono ?_; rintro e w' ⟨rfl, rfl⟩
  have hcn : decide (v / 2 < s.sk) = false := by simp; omega
  have hgn : decide (s.sk < v / 2) = false := by simp; omega
  have e1 : (v % 2 == 1) = false := by simp [hd]
  clear hd
  go_wp2_with fail
  go_quiet ((go_at_call 67; refine Calls.quiet_of_same (done_q v _ e1 _)))
  have H4 : Hid (Stp w (w2.drewN nq) F _) := H2.out.below ((GM2.out.star (BlkH.good _ _ _)).star (BlkH.good _ _ _)) (below_drewN (Below.refl _ _) _)
  go_wp2_with fail
  refine (Stp.look ((GM2.out.star (BlkH.good _ _ _)).star (BlkH.good _ _ _)) (Looks.left (B := BlkH w.heap.size #[.int .i64 0, .int .i64 0, .int .i64 0, .bool false] 51) (Looks.right (A := MemH p ring cells (l ++ [ldAcc th 2 (slotZ s.sk ring) 0 v])) (chkBehind_any x ring fr rs last s (-1) 0 (by decide) (by decide)))) (H4.out)).mono ?_
  rintro e w5 ⟨rfl, h5⟩
  have H5 := Lib.hid h5
  obtain ⟨c0, c1, rd, c10, c11, c12, c13, c14, c15, fz⟩ := chk_cells h5.has.left.right.blk
  clear h5 H4
  go_wp2_with fail
  refine (Stp.lift (Lifts.left (B := BlkH w.heap.size #[.int .i64 0, .int .i64 0, .int .i64 0, .bool false] 51) GR.out (Lifts.right GM2.out (chkMoves_on x ring fr rs last ⟨s.st, s.start, s.seen, s.sk, (nextW rs 0)⟩ 2 (by decide)))) ((H5.out).move (Moves.left (BlkH.good _ _ _) (Moves.right GM2.out (BlkH.set 15 _))))).mono ?_
  rintro e w9 ⟨rfl, h9⟩
  have H9 := Lib.hid h9
  obtain ⟨r0, r1, r2, r3, rz⟩ := four_cells h9.has.right.blk
  clear h9
  unfold ansV
  go_wp2_with fail
  refine bodyPost_ret (v := _) (by simp [results, Try.results72, go_sem, r0, r1, r2, r3]; rfl) rfl ?_
  exact ⟨rfl, (((((H9.out).move (Moves.right (GM2.out.star (BlkH.good _ _ _)) (BlkH.set 0 _))).move (Moves.right (GM2.out.star (BlkH.good _ _ _)) (BlkH.set 1 _))).move (Moves.right (GM2.out.star (BlkH.good _ _ _)) (BlkH.set 2 _))).move (Moves.right (GM2.out.star (BlkH.good _ _ _)) (BlkH.set 3 _))).fst⟩
set_option maxHeartbeats 2000000 in
theorem chkHead_same (p x ring cells : Nat) (l : List Acc) (hlen : l.length ≤ 3000000000000) (hr1 : 1 ≤ ring) (hr2 : ring ≤ 16) (fr : Int) (hf : 0 ≤ fr) (rs : Nat → Int) (hrs : Wds rs) (last : Bool) (s : CS) (th : Int) (hvI : I64 (wordOf l 2 (slotZ s.sk ring) 0)) (hk1 : 1 ≤ s.sk) (hk2 : s.sk ≤ 9223372036854775807) (hc : wordOf l 2 (slotZ s.sk ring) 0 / 2 = s.sk) (hd : wordOf l 2 (slotZ s.sk ring) 0 % 2 = 1) (hs : s.start ≠ s.sk - 1) :
    Lifts Try.prog 72 #[.pointer (some ⟨x, 0, none⟩), .pointer (some ⟨p, 0, none⟩), .int .i64 th] (CStep p x ring cells l ring fr rs last s) (CStep p x ring cells (l ++ [ldAcc th 2 (slotZ s.sk ring) 0 (wordOf l 2 (slotZ s.sk ring) 0)]) ring fr rs last ⟨2, s.start, s.seen, s.sk, (nextW rs 0)⟩) (.returned (ansV 2 0 0 true)) := by
  rintro w F hO
  have hxlt : x < w.heap.size := by
    obtain ⟨_, _, _, hx, _⟩ := hO
    exact heap_lt hx.1
  have hne : x ≠ w.heap.size := by omega
  have hne2 : w.heap.size ≠ x := by omega
  have GM2 := Lib.hid (MemH.good p ring cells (l ++ [ldAcc th 2 (slotZ s.sk ring) 0 (wordOf l 2 (slotZ s.sk ring) 0)]))
  have GR := Lib.hid (BlkH.good w.heap.size #[.int .i64 0, .int .i64 0, .int .i64 0, .bool false] 51)
  have GMX := Lib.hid (CStep.good p x ring cells l ring fr rs last s)
  have H0 := Lib.hid ((Stp.refl hO).box GMX.out #[.int .i64 0, .int .i64 0, .int .i64 0, .bool false] 51)
  have HL := Lib.hid (Lifts.left (B := BlkH w.heap.size #[.int .i64 0, .int .i64 0, .int .i64 0, .bool false] 51) GR.out (Lifts.left (B := ChkH x ring fr rs last s) (BlkH.good _ _ _) (load_in p ring cells l hlen th 2 (slotZ s.sk ring) 0 (.inr (.inl ⟨rfl, slotZ_lt s.sk ring (by omega) (by omega), rfl⟩)))))
  have HWR := Lib.hid hrs
  clear hO hrs
  generalize hV : wordOf l 2 (slotZ s.sk ring) 0 = v at *
  clear hV
  obtain ⟨hv1, hv2⟩ := hvI
  go_enter Try.func72, Try.ntmps72
  go_wp2_with fail
  have H0D : Hid (Stp w (w.alloc (.cells #[.int .i64 0, .int .i64 0, .int .i64 0, .bool false] 51)).drew F _) := H0.out.drew (GMX.out.star GR.out)
  obtain ⟨c0, c1, rd, c10, c11, c12, c13, c14, c15, fz⟩ := chk_cells H0D.out.has.left.right.blk
  clear rd
  go_region_held3 (fun wx => wx.cell? ⟨x, 14, none⟩ = some (.int .i64 s.sk) ∧ wx.cell? ⟨x, 0, none⟩ = some (.int .i64 ring)) (first | (exact ⟨c14, c0⟩) | (refine ⟨?_, ?_⟩ <;> assumption)) (first | (go_at_call 69; refine (slot_any _ _ _).mono ?_; rintro e w' ⟨rfl, rfl⟩) | (go_at_call 68; refine (Stp.lift HL.out H0D.out).mono ?_; rintro e w2 ⟨rfl, h2⟩; have H2 := Lib.hid h2; have k0 := (chk_cells h2.has.left.right.blk).c0; have k14 := (chk_cells h2.has.left.right.blk).c14))
  clear HL c0 c1 c10 c11 c12 c13 c14 c15 fz H0 H0D h2 k0 k14
  obtain ⟨c0, c1, rd, c10, c11, c12, c13, c14, c15, fz⟩ := chk_cells H2.out.has.left.right.blk
  clear rd
  obtain ⟨r0, r1, r2, r3, rz⟩ := four_cells H2.out.has.right.blk
  go_wp2_with fail
  refine (stamp_any v _).mono ?_; rintro e w' ⟨rfl, rfl⟩
  have hcn : decide (v / 2 < s.sk) = false := by simp; omega
  have hgn : decide (s.sk < v / 2) = false := by simp; omega
  have e1 : (v % 2 == 1) = true := by simp [hd]
  have e2 : (s.start == s.sk - 1) = false := by simp [hs]
  clear hd hs
  go_wp2_with fail
  go_quiet ((go_at_call 67; refine Calls.quiet_of_same (done_q v _ e1 _)))
  have H4 : Hid (Stp w (w2.drewN nq) F _) := H2.out.below ((GM2.out.star (BlkH.good _ _ _)).star (BlkH.good _ _ _)) (below_drewN (Below.refl _ _) _)
  go_wp2_with fail
  refine (Stp.look ((GM2.out.star (BlkH.good _ _ _)).star (BlkH.good _ _ _)) (Looks.left (B := BlkH w.heap.size #[.int .i64 0, .int .i64 0, .int .i64 0, .bool false] 51) (Looks.right (A := MemH p ring cells (l ++ [ldAcc th 2 (slotZ s.sk ring) 0 v])) (chkBehind_any x ring fr rs last s (-1) 0 (by decide) (by decide)))) (H4.out)).mono ?_
  rintro e w5 ⟨rfl, h5⟩
  have H5 := Lib.hid h5
  obtain ⟨c0, c1, rd, c10, c11, c12, c13, c14, c15, fz⟩ := chk_cells h5.has.left.right.blk
  clear h5 H4
  go_wp2_with fail
  refine (Stp.lift (Lifts.left (B := BlkH w.heap.size #[.int .i64 0, .int .i64 0, .int .i64 0, .bool false] 51) GR.out (Lifts.right GM2.out (chkMoves_on x ring fr rs last ⟨s.st, s.start, s.seen, s.sk, (nextW rs 0)⟩ 2 (by decide)))) ((H5.out).move (Moves.left (BlkH.good _ _ _) (Moves.right GM2.out (BlkH.set 15 _))))).mono ?_
  rintro e w9 ⟨rfl, h9⟩
  have H9 := Lib.hid h9
  obtain ⟨r0, r1, r2, r3, rz⟩ := four_cells h9.has.right.blk
  clear h9
  unfold ansV
  go_wp2_with fail
  refine bodyPost_ret (v := _) (by simp [results, Try.results72, go_sem, r0, r1, r2, r3]; rfl) rfl ?_
  exact ⟨rfl, (((((H9.out).move (Moves.right (GM2.out.star (BlkH.good _ _ _)) (BlkH.set 0 _))).move (Moves.right (GM2.out.star (BlkH.good _ _ _)) (BlkH.set 1 _))).move (Moves.right (GM2.out.star (BlkH.good _ _ _)) (BlkH.set 2 _))).move (Moves.right (GM2.out.star (BlkH.good _ _ _)) (BlkH.set 3 _))).fst⟩
end Go.Proofs.Ytojkeahffabifaa
