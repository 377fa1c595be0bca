/- Layer 8: the program's Step at a word. -/
import Derived.Test.YtecbnialcnplkaaC8e
namespace Go.Proofs.Ytecbnialcnplkaa
open Go.RowKit
set_option linter.unusedVariables false
set_option maxHeartbeats 2000000 in
theorem chkStep_stamp (p x ring cells : Nat) (l : List Acc) (hlen : l.length ≤ 100000000000) (hr1 : 1 ≤ ring) (hr2 : ring ≤ 16) (m : Nat) (hm : m < 8) (fr : Int) (rs : Nat → Int) (last : Bool) (s : CS) (th : Int) (hst : s.st = 2) (hw : s.word = m) (hvI : I64 (wordOf l 3 (slotZ s.sk ring) m)) (hb : bits .and .u64 (IntKind.u64.wrap (wordOf l 3 (slotZ s.sk ring) m)) (rs m) = 0) (hx : ¬ nextW rs (m + 1) < 8) (hlt : s.sk < s.seen) (hse : s.seen ≤ 9223372036854775807) (hsk : 0 ≤ s.sk) :
    Lifts Try.prog 13 #[.pointer (some ⟨x, 0, none⟩), .pointer (some ⟨p, 0, none⟩), .int .i64 th] (CStep p x ring cells l ring fr rs last s) (CStep p x ring cells (l ++ [ldAcc th 3 (slotZ s.sk ring) m (wordOf l 3 (slotZ s.sk ring) m)]) ring fr rs last ⟨1, s.start, s.seen, s.sk + 1, (nextW rs (m + 1) : Nat)⟩) (.returned (ansV 2 0 0 true)) := by
  rintro w F hO
  have hxlt : x < w.heap.size := by
    obtain ⟨_, _, _, hx, _⟩ := hO
    exact heap_lt hx.1
  have hne : x ≠ w.heap.size := by omega
  have hne2 : w.heap.size ≠ x := by omega
  have GR := Lib.hid (BlkH.good w.heap.size #[.int .i64 0, .int .i64 0, .int .i64 0, .bool false] 48)
  have GMX := Lib.hid (CStep.good p x ring cells l ring fr rs last s)
  have H0 := Lib.hid ((Stp.refl hO).box GMX.out #[.int .i64 0, .int .i64 0, .int .i64 0, .bool false] 48)
  have HS := Lib.hid (Looks.left (B := BlkH w.heap.size #[.int .i64 0, .int .i64 0, .int .i64 0, .bool false] 48) (Looks.left (B := ChkH x ring fr rs last s) (sizes_any p ring cells l)))
  have e1 : ((ring : Int) != (ring : Int)) = false := by simp
  clear hO
  have GM2 := Lib.hid (MemH.good p ring cells (l ++ [ldAcc th 3 (slotZ s.sk ring) m (wordOf l 3 (slotZ s.sk ring) m)]))
  have HL := Lib.hid (Lifts.left (B := BlkH w.heap.size #[.int .i64 0, .int .i64 0, .int .i64 0, .bool false] 48) GR.out (Lifts.left (B := ChkH x ring fr rs last s) (BlkH.good _ _ _) (load_in p ring cells l hlen th 3 (slotZ s.sk ring) m (.inr (.inr (.inl ⟨rfl, slotZ_lt s.sk ring (by omega) (by omega), by omega, by omega⟩))))))
  generalize hV : wordOf l 3 (slotZ s.sk ring) m = v at *
  have HV := Lib.hid hV
  clear hV
  obtain ⟨hv1, hv2⟩ := hvI
  go_enter Try.func13, Try.ntmps13
  go_wp2_with fail
  refine (Stp.look (GMX.out.star GR.out) HS.out H0.out).mono ?_
  rintro e w1 ⟨rfl, h1⟩
  have H1 := Lib.hid h1
  obtain ⟨c0, c1, rd, c10, c11, c12, c13, c14, c15, fz⟩ := chk_cells h1.has.left.right.blk
  rw [hst] at c11
  clear h1 H0 HS rd
  rw [hw] at c15
  have e2 : (bits .and .u64 (IntKind.u64.wrap v) (rs m) != 0) = false := by simp [hb]
  clear hb
  go_wp2_with fail
  have H1D : Hid (Stp w w1.drew F _) := H1.out.drew (GMX.out.star GR.out)
  go_region_held3 (fun wx => wx.cell? ⟨x, 14, none⟩ = some (.int .i64 s.sk) ∧ wx.cell? ⟨x, 0, none⟩ = some (.int .i64 ring) ∧ wx.cell? ⟨x, 15, none⟩ = some (.int .i64 m)) (first | (exact ⟨c14, c0, c15⟩) | (refine ⟨?_, ?_, ?_⟩ <;> assumption)) (first | (go_at_call 36; refine (slot_any _ _ _).mono ?_; rintro e w' ⟨rfl, rfl⟩) | (go_at_call 35; refine (Stp.lift HL.out H1D.out).mono ?_; rintro e w2 ⟨rfl, h2⟩; have H2 := Lib.hid h2; have k0 := (chk_cells h2.has.left.right.blk).c0; have k14 := (chk_cells h2.has.left.right.blk).c14; have k15 := (chk_cells h2.has.left.right.blk).c15; rw [hw] at k15))
  clear HL c0 c1 c10 c11 c12 c13 c14 c15 fz H1 H1D h2 k0 k14 k15
  obtain ⟨c0, c1, rd, c10, c11, c12, c13, c14, c15, fz⟩ := chk_cells H2.out.has.left.right.blk
  rw [hw] at c15
  have cm := rd m hm
  have hm8 : (m : Int) < 8 := by omega
  have hm0 : (0 : Int) ≤ m := by omega
  clear rd
  go_wp2_with fail
  go_quiet (fail)
  have H3 : Hid (Stp w (w2.drewN nq) F _) := H2.out.below ((GM2.out.star (BlkH.good _ _ _)).star (BlkH.good _ _ _)) (below_drewN (Below.refl _ _) _)
  go_wp2_with fail
  refine (Stp.look ((GM2.out.star (BlkH.good _ _ _)).star (BlkH.good _ _ _)) (Looks.left (B := BlkH w.heap.size #[.int .i64 0, .int .i64 0, .int .i64 0, .bool false] 48) (Looks.right (A := MemH p ring cells (l ++ [ldAcc th 3 (slotZ s.sk ring) m v])) (chkBehind_any x ring fr rs last s m (m + 1) (by omega) (by omega)))) H3.out).mono ?_
  rintro e w5 ⟨rfl, h5⟩
  have H5 : Hid (Stp w (w5.setCell ⟨x, 15, none⟩ (.int .i64 (nextW rs (m + 1) : Nat))) F (Star (Star (MemH p ring cells (l ++ [ldAcc th 3 (slotZ s.sk ring) m v])) (ChkH x ring fr rs last ⟨s.st, s.start, s.seen, s.sk, (nextW rs (m + 1) : Nat)⟩)) (BlkH w.heap.size #[.int .i64 0, .int .i64 0, .int .i64 0, .bool false] 48))) := (h5).move (Moves.left (BlkH.good _ _ _) (Moves.right GM2.out (BlkH.set 15 _)))
  obtain ⟨c0, c1, rd, c10, c11, c12, c13, c14, c15, fz⟩ := chk_cells h5.has.left.right.blk
  clear h5 H3 rd
  generalize hnx : nextW rs (m + 1) = nx at *
  have HNX := Lib.hid hnx
  clear hnx
  have hx8 : ¬ (nx : Int) < 8 := by omega
  go_wp2_with fail
  generalize w5.setCell ⟨x, 15, none⟩ (.int .i64 (nx : Nat)) = w6 at *
  clear c0 c1 c10 c11 c12 c13 c14 c15 fz
  obtain ⟨c0, c1, rd, c10, c11, c12, c13, c14, c15, fz⟩ := chk_cells H5.out.has.left.right.blk
  clear rd
  go_quiet (fail)
  have H6 : Hid (Stp w (w6.drewN nq) F _) := H5.out.below ((GM2.out.star (BlkH.good _ _ _)).star (BlkH.good _ _ _)) (below_drewN (Below.refl _ _) _)
  go_wp2_with fail
  refine (Stp.lift (Lifts.left (B := BlkH w.heap.size #[.int .i64 0, .int .i64 0, .int .i64 0, .bool false] 48) GR.out (Lifts.right GM2.out (chkMoves_on x ring fr rs last ⟨s.st, s.start, s.seen, s.sk + 1, (nx : Nat)⟩ 1 (by decide)))) ((H6.out).move (Moves.left (BlkH.good _ _ _) (Moves.right GM2.out (BlkH.set 14 _))))).mono ?_
  rintro e w9 ⟨rfl, h9⟩
  have H9 := Lib.hid h9
  obtain ⟨r0, r1, r2, r3, rz⟩ := four_cells h9.has.right.blk
  clear h9
  unfold ansV
  go_wp2_with fail
  refine bodyPost_ret (v := _) (by simp [results, Try.results13, go_sem, r0, r1, r2, r3]; rfl) rfl ?_
  rw [HNX.out]
  exact ⟨rfl, (((((H9.out).move (Moves.right (GM2.out.star (BlkH.good _ _ _)) (BlkH.set 0 _))).move (Moves.right (GM2.out.star (BlkH.good _ _ _)) (BlkH.set 1 _))).move (Moves.right (GM2.out.star (BlkH.good _ _ _)) (BlkH.set 2 _))).move (Moves.right (GM2.out.star (BlkH.good _ _ _)) (BlkH.set 3 _))).fst⟩
set_option maxHeartbeats 2000000 in
theorem chkStep_last (p x ring cells : Nat) (l : List Acc) (hlen : l.length ≤ 100000000000) (hr1 : 1 ≤ ring) (hr2 : ring ≤ 16) (m : Nat) (hm : m < 8) (fr : Int) (rs : Nat → Int) (last : Bool) (s : CS) (th : Int) (hst : s.st = 2) (hw : s.word = m) (hvI : I64 (wordOf l 3 (slotZ s.sk ring) m)) (hb : bits .and .u64 (IntKind.u64.wrap (wordOf l 3 (slotZ s.sk ring) m)) (rs m) = 0) (hx : ¬ nextW rs (m + 1) < 8) (hlt : ¬ s.sk < s.seen) (hla : last = true) :
    Lifts Try.prog 13 #[.pointer (some ⟨x, 0, none⟩), .pointer (some ⟨p, 0, none⟩), .int .i64 th] (CStep p x ring cells l ring fr rs last s) (CStep p x ring cells (l ++ [ldAcc th 3 (slotZ s.sk ring) m (wordOf l 3 (slotZ s.sk ring) m)]) ring fr rs last ⟨3, s.start, s.seen, s.sk, (nextW rs (m + 1) : Nat)⟩) (.returned (ansV 2 0 0 true)) := by
  rintro w F hO
  have hxlt : x < w.heap.size := by
    obtain ⟨_, _, _, hx, _⟩ := hO
    exact heap_lt hx.1
  have hne : x ≠ w.heap.size := by omega
  have hne2 : w.heap.size ≠ x := by omega
  have GR := Lib.hid (BlkH.good w.heap.size #[.int .i64 0, .int .i64 0, .int .i64 0, .bool false] 48)
  have GMX := Lib.hid (CStep.good p x ring cells l ring fr rs last s)
  have H0 := Lib.hid ((Stp.refl hO).box GMX.out #[.int .i64 0, .int .i64 0, .int .i64 0, .bool false] 48)
  have HS := Lib.hid (Looks.left (B := BlkH w.heap.size #[.int .i64 0, .int .i64 0, .int .i64 0, .bool false] 48) (Looks.left (B := ChkH x ring fr rs last s) (sizes_any p ring cells l)))
  have e1 : ((ring : Int) != (ring : Int)) = false := by simp
  clear hO
  have GM2 := Lib.hid (MemH.good p ring cells (l ++ [ldAcc th 3 (slotZ s.sk ring) m (wordOf l 3 (slotZ s.sk ring) m)]))
  have HL := Lib.hid (Lifts.left (B := BlkH w.heap.size #[.int .i64 0, .int .i64 0, .int .i64 0, .bool false] 48) GR.out (Lifts.left (B := ChkH x ring fr rs last s) (BlkH.good _ _ _) (load_in p ring cells l hlen th 3 (slotZ s.sk ring) m (.inr (.inr (.inl ⟨rfl, slotZ_lt s.sk ring (by omega) (by omega), by omega, by omega⟩))))))
  generalize hV : wordOf l 3 (slotZ s.sk ring) m = v at *
  have HV := Lib.hid hV
  clear hV
  obtain ⟨hv1, hv2⟩ := hvI
  go_enter Try.func13, Try.ntmps13
  go_wp2_with fail
  refine (Stp.look (GMX.out.star GR.out) HS.out H0.out).mono ?_
  rintro e w1 ⟨rfl, h1⟩
  have H1 := Lib.hid h1
  obtain ⟨c0, c1, rd, c10, c11, c12, c13, c14, c15, fz⟩ := chk_cells h1.has.left.right.blk
  rw [hst] at c11
  clear h1 H0 HS rd
  rw [hw] at c15
  have e2 : (bits .and .u64 (IntKind.u64.wrap v) (rs m) != 0) = false := by simp [hb]
  clear hb
  have hltn : decide (s.sk < s.seen) = false := by simpa using hlt
  go_wp2_with fail
  have H1D : Hid (Stp w w1.drew F _) := H1.out.drew (GMX.out.star GR.out)
  go_region_held3 (fun wx => wx.cell? ⟨x, 14, none⟩ = some (.int .i64 s.sk) ∧ wx.cell? ⟨x, 0, none⟩ = some (.int .i64 ring) ∧ wx.cell? ⟨x, 15, none⟩ = some (.int .i64 m)) (first | (exact ⟨c14, c0, c15⟩) | (refine ⟨?_, ?_, ?_⟩ <;> assumption)) (first | (go_at_call 36; refine (slot_any _ _ _).mono ?_; rintro e w' ⟨rfl, rfl⟩) | (go_at_call 35; refine (Stp.lift HL.out H1D.out).mono ?_; rintro e w2 ⟨rfl, h2⟩; have H2 := Lib.hid h2; have k0 := (chk_cells h2.has.left.right.blk).c0; have k14 := (chk_cells h2.has.left.right.blk).c14; have k15 := (chk_cells h2.has.left.right.blk).c15; rw [hw] at k15))
  clear HL c0 c1 c10 c11 c12 c13 c14 c15 fz H1 H1D h2 k0 k14 k15
  obtain ⟨c0, c1, rd, c10, c11, c12, c13, c14, c15, fz⟩ := chk_cells H2.out.has.left.right.blk
  rw [hw] at c15
  have cm := rd m hm
  have hm8 : (m : Int) < 8 := by omega
  have hm0 : (0 : Int) ≤ m := by omega
  clear rd
  go_wp2_with fail
  go_quiet (fail)
  have H3 : Hid (Stp w (w2.drewN nq) F _) := H2.out.below ((GM2.out.star (BlkH.good _ _ _)).star (BlkH.good _ _ _)) (below_drewN (Below.refl _ _) _)
  go_wp2_with fail
  refine (Stp.look ((GM2.out.star (BlkH.good _ _ _)).star (BlkH.good _ _ _)) (Looks.left (B := BlkH w.heap.size #[.int .i64 0, .int .i64 0, .int .i64 0, .bool false] 48) (Looks.right (A := MemH p ring cells (l ++ [ldAcc th 3 (slotZ s.sk ring) m v])) (chkBehind_any x ring fr rs last s m (m + 1) (by omega) (by omega)))) H3.out).mono ?_
  rintro e w5 ⟨rfl, h5⟩
  have H5 : Hid (Stp w (w5.setCell ⟨x, 15, none⟩ (.int .i64 (nextW rs (m + 1) : Nat))) F (Star (Star (MemH p ring cells (l ++ [ldAcc th 3 (slotZ s.sk ring) m v])) (ChkH x ring fr rs last ⟨s.st, s.start, s.seen, s.sk, (nextW rs (m + 1) : Nat)⟩)) (BlkH w.heap.size #[.int .i64 0, .int .i64 0, .int .i64 0, .bool false] 48))) := (h5).move (Moves.left (BlkH.good _ _ _) (Moves.right GM2.out (BlkH.set 15 _)))
  obtain ⟨c0, c1, rd, c10, c11, c12, c13, c14, c15, fz⟩ := chk_cells h5.has.left.right.blk
  clear h5 H3 rd
  generalize hnx : nextW rs (m + 1) = nx at *
  have HNX := Lib.hid hnx
  clear hnx
  have hx8 : ¬ (nx : Int) < 8 := by omega
  subst hla
  go_wp2_with fail
  generalize w5.setCell ⟨x, 15, none⟩ (.int .i64 (nx : Nat)) = w6 at *
  clear c0 c1 c10 c11 c12 c13 c14 c15 fz
  obtain ⟨c0, c1, rd, c10, c11, c12, c13, c14, c15, fz⟩ := chk_cells H5.out.has.left.right.blk
  clear rd
  go_quiet (fail)
  have H6 : Hid (Stp w (w6.drewN nq) F _) := H5.out.below ((GM2.out.star (BlkH.good _ _ _)).star (BlkH.good _ _ _)) (below_drewN (Below.refl _ _) _)
  go_wp2_with fail
  refine (Stp.lift (Lifts.left (B := BlkH w.heap.size #[.int .i64 0, .int .i64 0, .int .i64 0, .bool false] 48) GR.out (Lifts.right GM2.out (chkMoves_on x ring fr rs true ⟨s.st, s.start, s.seen, s.sk, (nx : Nat)⟩ 3 (by decide)))) (H6.out)).mono ?_
  rintro e w9 ⟨rfl, h9⟩
  have H9 := Lib.hid h9
  obtain ⟨r0, r1, r2, r3, rz⟩ := four_cells h9.has.right.blk
  clear h9
  unfold ansV
  go_wp2_with fail
  refine bodyPost_ret (v := _) (by simp [results, Try.results13, go_sem, r0, r1, r2, r3]; rfl) rfl ?_
  rw [HNX.out]
  exact ⟨rfl, (((((H9.out).move (Moves.right (GM2.out.star (BlkH.good _ _ _)) (BlkH.set 0 _))).move (Moves.right (GM2.out.star (BlkH.good _ _ _)) (BlkH.set 1 _))).move (Moves.right (GM2.out.star (BlkH.good _ _ _)) (BlkH.set 2 _))).move (Moves.right (GM2.out.star (BlkH.good _ _ _)) (BlkH.set 3 _))).fst⟩
set_option maxHeartbeats 2000000 in
theorem chkStep_thr (p x ring cells : Nat) (l : List Acc) (hlen : l.length ≤ 100000000000) (hr1 : 1 ≤ ring) (hr2 : ring ≤ 16) (m : Nat) (hm : m < 8) (fr : Int) (rs : Nat → Int) (last : Bool) (s : CS) (th : Int) (hst : s.st = 2) (hw : s.word = m) (hvI : I64 (wordOf l 3 (slotZ s.sk ring) m)) (hb : bits .and .u64 (IntKind.u64.wrap (wordOf l 3 (slotZ s.sk ring) m)) (rs m) = 0) (hx : ¬ nextW rs (m + 1) < 8) (hlt : ¬ s.sk < s.seen) (hla : last = false) :
    Lifts Try.prog 13 #[.pointer (some ⟨x, 0, none⟩), .pointer (some ⟨p, 0, none⟩), .int .i64 th] (CStep p x ring cells l ring fr rs last s) (CStep p x ring cells (l ++ [ldAcc th 3 (slotZ s.sk ring) m (wordOf l 3 (slotZ s.sk ring) m)]) ring fr rs last ⟨4, s.start, s.seen, s.sk, (nextW rs (m + 1) : Nat)⟩) (.returned (ansV 3 0 0 true)) := by
  rintro w F hO
  have hxlt : x < w.heap.size := by
    obtain ⟨_, _, _, hx, _⟩ := hO
    exact heap_lt hx.1
  have hne : x ≠ w.heap.size := by omega
  have hne2 : w.heap.size ≠ x := by omega
  have GR := Lib.hid (BlkH.good w.heap.size #[.int .i64 0, .int .i64 0, .int .i64 0, .bool false] 48)
  have GMX := Lib.hid (CStep.good p x ring cells l ring fr rs last s)
  have H0 := Lib.hid ((Stp.refl hO).box GMX.out #[.int .i64 0, .int .i64 0, .int .i64 0, .bool false] 48)
  have HS := Lib.hid (Looks.left (B := BlkH w.heap.size #[.int .i64 0, .int .i64 0, .int .i64 0, .bool false] 48) (Looks.left (B := ChkH x ring fr rs last s) (sizes_any p ring cells l)))
  have e1 : ((ring : Int) != (ring : Int)) = false := by simp
  clear hO
  have GM2 := Lib.hid (MemH.good p ring cells (l ++ [ldAcc th 3 (slotZ s.sk ring) m (wordOf l 3 (slotZ s.sk ring) m)]))
  have HL := Lib.hid (Lifts.left (B := BlkH w.heap.size #[.int .i64 0, .int .i64 0, .int .i64 0, .bool false] 48) GR.out (Lifts.left (B := ChkH x ring fr rs last s) (BlkH.good _ _ _) (load_in p ring cells l hlen th 3 (slotZ s.sk ring) m (.inr (.inr (.inl ⟨rfl, slotZ_lt s.sk ring (by omega) (by omega), by omega, by omega⟩))))))
  generalize hV : wordOf l 3 (slotZ s.sk ring) m = v at *
  have HV := Lib.hid hV
  clear hV
  obtain ⟨hv1, hv2⟩ := hvI
  go_enter Try.func13, Try.ntmps13
  go_wp2_with fail
  refine (Stp.look (GMX.out.star GR.out) HS.out H0.out).mono ?_
  rintro e w1 ⟨rfl, h1⟩
  have H1 := Lib.hid h1
  obtain ⟨c0, c1, rd, c10, c11, c12, c13, c14, c15, fz⟩ := chk_cells h1.has.left.right.blk
  rw [hst] at c11
  clear h1 H0 HS rd
  rw [hw] at c15
  have e2 : (bits .and .u64 (IntKind.u64.wrap v) (rs m) != 0) = false := by simp [hb]
  clear hb
  have hltn : decide (s.sk < s.seen) = false := by simpa using hlt
  go_wp2_with fail
  have H1D : Hid (Stp w w1.drew F _) := H1.out.drew (GMX.out.star GR.out)
  go_region_held3 (fun wx => wx.cell? ⟨x, 14, none⟩ = some (.int .i64 s.sk) ∧ wx.cell? ⟨x, 0, none⟩ = some (.int .i64 ring) ∧ wx.cell? ⟨x, 15, none⟩ = some (.int .i64 m)) (first | (exact ⟨c14, c0, c15⟩) | (refine ⟨?_, ?_, ?_⟩ <;> assumption)) (first | (go_at_call 36; refine (slot_any _ _ _).mono ?_; rintro e w' ⟨rfl, rfl⟩) | (go_at_call 35; refine (Stp.lift HL.out H1D.out).mono ?_; rintro e w2 ⟨rfl, h2⟩; have H2 := Lib.hid h2; have k0 := (chk_cells h2.has.left.right.blk).c0; have k14 := (chk_cells h2.has.left.right.blk).c14; have k15 := (chk_cells h2.has.left.right.blk).c15; rw [hw] at k15))
  clear HL c0 c1 c10 c11 c12 c13 c14 c15 fz H1 H1D h2 k0 k14 k15
  obtain ⟨c0, c1, rd, c10, c11, c12, c13, c14, c15, fz⟩ := chk_cells H2.out.has.left.right.blk
  rw [hw] at c15
  have cm := rd m hm
  have hm8 : (m : Int) < 8 := by omega
  have hm0 : (0 : Int) ≤ m := by omega
  clear rd
  go_wp2_with fail
  go_quiet (fail)
  have H3 : Hid (Stp w (w2.drewN nq) F _) := H2.out.below ((GM2.out.star (BlkH.good _ _ _)).star (BlkH.good _ _ _)) (below_drewN (Below.refl _ _) _)
  go_wp2_with fail
  refine (Stp.look ((GM2.out.star (BlkH.good _ _ _)).star (BlkH.good _ _ _)) (Looks.left (B := BlkH w.heap.size #[.int .i64 0, .int .i64 0, .int .i64 0, .bool false] 48) (Looks.right (A := MemH p ring cells (l ++ [ldAcc th 3 (slotZ s.sk ring) m v])) (chkBehind_any x ring fr rs last s m (m + 1) (by omega) (by omega)))) H3.out).mono ?_
  rintro e w5 ⟨rfl, h5⟩
  have H5 : Hid (Stp w (w5.setCell ⟨x, 15, none⟩ (.int .i64 (nextW rs (m + 1) : Nat))) F (Star (Star (MemH p ring cells (l ++ [ldAcc th 3 (slotZ s.sk ring) m v])) (ChkH x ring fr rs last ⟨s.st, s.start, s.seen, s.sk, (nextW rs (m + 1) : Nat)⟩)) (BlkH w.heap.size #[.int .i64 0, .int .i64 0, .int .i64 0, .bool false] 48))) := (h5).move (Moves.left (BlkH.good _ _ _) (Moves.right GM2.out (BlkH.set 15 _)))
  obtain ⟨c0, c1, rd, c10, c11, c12, c13, c14, c15, fz⟩ := chk_cells h5.has.left.right.blk
  clear h5 H3 rd
  generalize hnx : nextW rs (m + 1) = nx at *
  have HNX := Lib.hid hnx
  clear hnx
  have hx8 : ¬ (nx : Int) < 8 := by omega
  subst hla
  go_wp2_with fail
  generalize w5.setCell ⟨x, 15, none⟩ (.int .i64 (nx : Nat)) = w6 at *
  clear c0 c1 c10 c11 c12 c13 c14 c15 fz
  obtain ⟨c0, c1, rd, c10, c11, c12, c13, c14, c15, fz⟩ := chk_cells H5.out.has.left.right.blk
  clear rd
  go_quiet (fail)
  have H6 : Hid (Stp w (w6.drewN nq) F _) := H5.out.below ((GM2.out.star (BlkH.good _ _ _)).star (BlkH.good _ _ _)) (below_drewN (Below.refl _ _) _)
  go_wp2_with fail
  refine (Stp.lift (Lifts.left (B := BlkH w.heap.size #[.int .i64 0, .int .i64 0, .int .i64 0, .bool false] 48) GR.out (Lifts.right GM2.out (chkMoves_thr x ring fr rs false ⟨s.st, s.start, s.seen, s.sk, (nx : Nat)⟩))) (H6.out)).mono ?_
  rintro e w9 ⟨rfl, h9⟩
  have H9 := Lib.hid h9
  obtain ⟨r0, r1, r2, r3, rz⟩ := four_cells h9.has.right.blk
  clear h9
  unfold ansV
  go_wp2_with fail
  refine bodyPost_ret (v := _) (by simp [results, Try.results13, go_sem, r0, r1, r2, r3]; rfl) rfl ?_
  rw [HNX.out]
  exact ⟨rfl, (((((H9.out).move (Moves.right (GM2.out.star (BlkH.good _ _ _)) (BlkH.set 0 _))).move (Moves.right (GM2.out.star (BlkH.good _ _ _)) (BlkH.set 1 _))).move (Moves.right (GM2.out.star (BlkH.good _ _ _)) (BlkH.set 2 _))).move (Moves.right (GM2.out.star (BlkH.good _ _ _)) (BlkH.set 3 _))).fst⟩
end Go.Proofs.Ytecbnialcnplkaa
