/- Layer 8: the program's Step, at the newest stamp and at a head. -/
import Derived.Test.YtojkeahffabifaaC8c
namespace Go.Proofs.Ytojkeahffabifaa
open Go.RowKit
set_option linter.unusedVariables false
set_option maxHeartbeats 2000000 in
theorem chkStep_none (p x ring cells : Nat) (l : List Acc) (size : Nat) (fr : Int) (rs : Nat → Int) (last : Bool) (s : CS) (th : Int) (hn : ring ≠ size ∨ 4 ≤ s.st) :
    Looks Try.prog 52 #[.pointer (some ⟨x, 0, none⟩), .pointer (some ⟨p, 0, none⟩), .int .i64 th] (CStep p x ring cells l size fr rs last s) (.returned (ansV 0 0 0 false)) := by
  rintro w F hO
  have H0 := Lib.hid ((Stp.refl hO).box (CStep.good _ _ _ _ _ _ _ _ _ _) #[.int .i64 0, .int .i64 0, .int .i64 0, .bool false] 51)
  have HG := Lib.hid ((CStep.good p x ring cells l size fr rs last s).star (BlkH.good w.heap.size #[.int .i64 0, .int .i64 0, .int .i64 0, .bool false] 51))
  have HS := Lib.hid (Looks.left (B := BlkH w.heap.size #[.int .i64 0, .int .i64 0, .int .i64 0, .bool false] 51) (Looks.left (B := ChkH x size fr rs last s) (sizes_any p ring cells l)))
  have hsz : Hid (w.heap.size ≤ (w.alloc (.cells #[.int .i64 0, .int .i64 0, .int .i64 0, .bool false] 51)).heap.size ∧ Below w.heap.size w (w.alloc (.cells #[.int .i64 0, .int .i64 0, .int .i64 0, .bool false] 51))) := ⟨by simp, (Below.refl _ _).alloc (Nat.le_refl _) _⟩
  clear hO
  go_enter Try.func52, Try.ntmps52
  go_wp2_with fail
  obtain ⟨F1, hF1⟩ := H0.out.has
  have H1' := HS.out _ F1 hF1
  refine H1'.mono ?_
  rintro e w1 ⟨rfl, hb⟩
  have HB : Hid (Below w.heap.size w w1) := hsz.out.2.trans (hb.mono hsz.out.1)
  have H1 := H0.out.below HG.out hb
  obtain ⟨c0, c1, rd, c10, c11, c12, c13, c14, c15, fz⟩ := chk_cells H1.has.left.right.blk
  obtain ⟨r0, r1, r2, r3, rz⟩ := four_cells H1.has.right.blk
  clear hb H1 H1' hF1 H0 HS HG hsz rd
  by_cases hr : ring = size
  · have hst : 4 ≤ s.st := hn.resolve_left (fun h => h hr)
    subst hr
    have e1 : ((ring : Int) != (ring : Int)) = false := by simp
    clear hn
    go_wp2_with fail
    refine bodyPost_ret (v := _) (by simp [results, Try.results52, go_sem, r0, r1, r2, r3]; rfl) rfl ?_
    exact ⟨rfl, (((HB.out.setCell (Nat.le_refl _) _).setCell (Nat.le_refl _) _).setCell (Nat.le_refl _) _).setCell (Nat.le_refl _) _⟩
  · have e1 : ((ring : Int) != (size : Int)) = true := by simp; omega
    clear hn hr
    go_wp2_with fail
    refine bodyPost_ret (v := _) (by simp [results, Try.results52, go_sem, r0, r1, r2, r3]; rfl) rfl ?_
    exact ⟨rfl, (((HB.out.setCell (Nat.le_refl _) _).setCell (Nat.le_refl _) _).setCell (Nat.le_refl _) _).setCell (Nat.le_refl _) _⟩
set_option maxHeartbeats 2000000 in
theorem chkStep_first (p x ring cells : Nat) (l : List Acc) (Ox : HP) (gO : Good Ox) (kd er : Int) (fr : Int) (rs : Nat → Int) (last : Bool) (s : CS) (th : Int) (hst : s.st = 0) (hL : Lifts Try.prog 71 #[.pointer (some ⟨x, 0, none⟩), .pointer (some ⟨p, 0, none⟩), .int .i64 th] (CStep p x ring cells l ring fr rs last s) Ox (.returned (ansV kd er 0 true))) :
    Lifts Try.prog 52 #[.pointer (some ⟨x, 0, none⟩), .pointer (some ⟨p, 0, none⟩), .int .i64 th] (CStep p x ring cells l ring fr rs last s) Ox (.returned (ansV kd er 0 true)) := by
  rintro w F hO
  have hxlt : x < w.heap.size := by
    obtain ⟨_, _, _, hx, _⟩ := hO
    exact heap_lt hx.1
  have hne : x ≠ w.heap.size := by omega
  have hne2 : w.heap.size ≠ x := by omega
  have GR := Lib.hid (BlkH.good w.heap.size #[.int .i64 0, .int .i64 0, .int .i64 0, .bool false] 51)
  have GMX := Lib.hid (CStep.good p x ring cells l ring fr rs last s)
  have H0 := Lib.hid ((Stp.refl hO).box GMX.out #[.int .i64 0, .int .i64 0, .int .i64 0, .bool false] 51)
  have HS := Lib.hid (Looks.left (B := BlkH w.heap.size #[.int .i64 0, .int .i64 0, .int .i64 0, .bool false] 51) (Looks.left (B := ChkH x ring fr rs last s) (sizes_any p ring cells l)))
  have e1 : ((ring : Int) != (ring : Int)) = false := by simp
  clear hO
  go_enter Try.func52, Try.ntmps52
  go_wp2_with fail
  refine (Stp.look (GMX.out.star GR.out) HS.out H0.out).mono ?_
  rintro e w1 ⟨rfl, h1⟩
  have H1 := Lib.hid h1
  obtain ⟨c0, c1, rd, c10, c11, c12, c13, c14, c15, fz⟩ := chk_cells h1.has.left.right.blk
  rw [hst] at c11
  clear h1 H0 HS rd
  go_wp2_with fail
  refine (Stp.lift (Lifts.left GR.out hL) H1.out).mono ?_
  rintro e w9 ⟨rfl, h9⟩
  have H9 := Lib.hid h9
  obtain ⟨r0, r1, r2, r3, rz⟩ := four_cells h9.has.right.blk
  clear h9
  unfold ansV
  go_wp2_with fail
  refine bodyPost_ret (v := _) (by simp [results, Try.results52, go_sem, r0, r1, r2, r3]; rfl) rfl ?_
  exact ⟨rfl, (((((H9.out).move (Moves.right gO (BlkH.set 0 _))).move (Moves.right gO (BlkH.set 1 _))).move (Moves.right gO (BlkH.set 2 _))).move (Moves.right gO (BlkH.set 3 _))).fst⟩
set_option maxHeartbeats 2000000 in
theorem chkStep_head (p x ring cells : Nat) (l : List Acc) (Ox : HP) (gO : Good Ox) (kd er : Int) (fr : Int) (rs : Nat → Int) (last : Bool) (s : CS) (th : Int) (hst : s.st = 1) (hL : Lifts Try.prog 72 #[.pointer (some ⟨x, 0, none⟩), .pointer (some ⟨p, 0, none⟩), .int .i64 th] (CStep p x ring cells l ring fr rs last s) Ox (.returned (ansV kd er 0 true))) :
    Lifts Try.prog 52 #[.pointer (some ⟨x, 0, none⟩), .pointer (some ⟨p, 0, none⟩), .int .i64 th] (CStep p x ring cells l ring fr rs last s) Ox (.returned (ansV kd er 0 true)) := by
  rintro w F hO
  have hxlt : x < w.heap.size := by
    obtain ⟨_, _, _, hx, _⟩ := hO
    exact heap_lt hx.1
  have hne : x ≠ w.heap.size := by omega
  have hne2 : w.heap.size ≠ x := by omega
  have GR := Lib.hid (BlkH.good w.heap.size #[.int .i64 0, .int .i64 0, .int .i64 0, .bool false] 51)
  have GMX := Lib.hid (CStep.good p x ring cells l ring fr rs last s)
  have H0 := Lib.hid ((Stp.refl hO).box GMX.out #[.int .i64 0, .int .i64 0, .int .i64 0, .bool false] 51)
  have HS := Lib.hid (Looks.left (B := BlkH w.heap.size #[.int .i64 0, .int .i64 0, .int .i64 0, .bool false] 51) (Looks.left (B := ChkH x ring fr rs last s) (sizes_any p ring cells l)))
  have e1 : ((ring : Int) != (ring : Int)) = false := by simp
  clear hO
  go_enter Try.func52, Try.ntmps52
  go_wp2_with fail
  refine (Stp.look (GMX.out.star GR.out) HS.out H0.out).mono ?_
  rintro e w1 ⟨rfl, h1⟩
  have H1 := Lib.hid h1
  obtain ⟨c0, c1, rd, c10, c11, c12, c13, c14, c15, fz⟩ := chk_cells h1.has.left.right.blk
  rw [hst] at c11
  clear h1 H0 HS rd
  go_wp2_with fail
  refine (Stp.lift (Lifts.left GR.out hL) H1.out).mono ?_
  rintro e w9 ⟨rfl, h9⟩
  have H9 := Lib.hid h9
  obtain ⟨r0, r1, r2, r3, rz⟩ := four_cells h9.has.right.blk
  clear h9
  unfold ansV
  go_wp2_with fail
  refine bodyPost_ret (v := _) (by simp [results, Try.results52, go_sem, r0, r1, r2, r3]; rfl) rfl ?_
  exact ⟨rfl, (((((H9.out).move (Moves.right gO (BlkH.set 0 _))).move (Moves.right gO (BlkH.set 1 _))).move (Moves.right gO (BlkH.set 2 _))).move (Moves.right gO (BlkH.set 3 _))).fst⟩
end Go.Proofs.Ytojkeahffabifaa
namespace Go.Proofs.Ytojkeahffabifaa
open Go.RowKit
set_option linter.unusedVariables false
set_option maxHeartbeats 2000000 in
theorem chkStep_conflict (p x ring cells : Nat) (l : List Acc) (hlen : l.length ≤ 3000000000000) (hr1 : 1 ≤ ring) (hr2 : ring ≤ 16) (m : Nat) (hm : m < 8) (fr : Int) (rs : Nat → Int) (last : Bool) (s : CS) (th : Int) (hst : s.st = 2) (hw : s.word = m) (hvI : I64 (wordOf l 3 (slotZ s.sk ring) m)) (hb : bits .and .u64 (IntKind.u64.wrap (wordOf l 3 (slotZ s.sk ring) m)) (rs m) ≠ 0) :
    Lifts Try.prog 52 #[.pointer (some ⟨x, 0, none⟩), .pointer (some ⟨p, 0, none⟩), .int .i64 th] (CStep p x ring cells l ring fr rs last s) (CStep p x ring cells (l ++ [ldAcc th 3 (slotZ s.sk ring) m (wordOf l 3 (slotZ s.sk ring) m)]) ring fr rs last ⟨5, s.start, s.seen, s.sk, s.word⟩) (.returned (ansV 4 3 0 true)) := by
  rintro w F hO
  have hxlt : x < w.heap.size := by
    obtain ⟨_, _, _, hx, _⟩ := hO
    exact heap_lt hx.1
  have hne : x ≠ w.heap.size := by omega
  have hne2 : w.heap.size ≠ x := by omega
  have GR := Lib.hid (BlkH.good w.heap.size #[.int .i64 0, .int .i64 0, .int .i64 0, .bool false] 51)
  have GMX := Lib.hid (CStep.good p x ring cells l ring fr rs last s)
  have H0 := Lib.hid ((Stp.refl hO).box GMX.out #[.int .i64 0, .int .i64 0, .int .i64 0, .bool false] 51)
  have HS := Lib.hid (Looks.left (B := BlkH w.heap.size #[.int .i64 0, .int .i64 0, .int .i64 0, .bool false] 51) (Looks.left (B := ChkH x ring fr rs last s) (sizes_any p ring cells l)))
  have e1 : ((ring : Int) != (ring : Int)) = false := by simp
  clear hO
  have GM2 := Lib.hid (MemH.good p ring cells (l ++ [ldAcc th 3 (slotZ s.sk ring) m (wordOf l 3 (slotZ s.sk ring) m)]))
  have HL := Lib.hid (Lifts.left (B := BlkH w.heap.size #[.int .i64 0, .int .i64 0, .int .i64 0, .bool false] 51) GR.out (Lifts.left (B := ChkH x ring fr rs last s) (BlkH.good _ _ _) (load_in p ring cells l hlen th 3 (slotZ s.sk ring) m (.inr (.inr (.inl ⟨rfl, slotZ_lt s.sk ring (by omega) (by omega), by omega, by omega⟩))))))
  generalize hV : wordOf l 3 (slotZ s.sk ring) m = v at *
  have HV := Lib.hid hV
  clear hV
  obtain ⟨hv1, hv2⟩ := hvI
  go_enter Try.func52, Try.ntmps52
  go_wp2_with fail
  refine (Stp.look (GMX.out.star GR.out) HS.out H0.out).mono ?_
  rintro e w1 ⟨rfl, h1⟩
  have H1 := Lib.hid h1
  obtain ⟨c0, c1, rd, c10, c11, c12, c13, c14, c15, fz⟩ := chk_cells h1.has.left.right.blk
  rw [hst] at c11
  clear h1 H0 HS rd
  rw [hw] at c15
  have e2 : (bits .and .u64 (IntKind.u64.wrap v) (rs m) != 0) = true := by simp [hb]
  clear hb
  go_wp2_with fail
  have H1D : Hid (Stp w w1.drew F _) := H1.out.drew (GMX.out.star GR.out)
  go_region_held3 (fun wx => wx.cell? ⟨x, 14, none⟩ = some (.int .i64 s.sk) ∧ wx.cell? ⟨x, 0, none⟩ = some (.int .i64 ring) ∧ wx.cell? ⟨x, 15, none⟩ = some (.int .i64 m)) (first | (exact ⟨c14, c0, c15⟩) | (refine ⟨?_, ?_, ?_⟩ <;> assumption)) (first | (go_at_call 69; refine (slot_any _ _ _).mono ?_; rintro e w' ⟨rfl, rfl⟩) | (go_at_call 68; refine (Stp.lift HL.out H1D.out).mono ?_; rintro e w2 ⟨rfl, h2⟩; have H2 := Lib.hid h2; have k0 := (chk_cells h2.has.left.right.blk).c0; have k14 := (chk_cells h2.has.left.right.blk).c14; have k15 := (chk_cells h2.has.left.right.blk).c15; rw [hw] at k15))
  clear HL c0 c1 c10 c11 c12 c13 c14 c15 fz H1 H1D h2 k0 k14 k15
  obtain ⟨c0, c1, rd, c10, c11, c12, c13, c14, c15, fz⟩ := chk_cells H2.out.has.left.right.blk
  rw [hw] at c15
  have cm := rd m hm
  have hm8 : (m : Int) < 8 := by omega
  have hm0 : (0 : Int) ≤ m := by omega
  clear rd
  go_wp2_with fail
  go_quiet (fail)
  have H3 : Hid (Stp w (w2.drewN nq) F _) := H2.out.below ((GM2.out.star (BlkH.good _ _ _)).star (BlkH.good _ _ _)) (below_drewN (Below.refl _ _) _)
  go_wp2_with fail
  refine (Stp.lift (Lifts.left (B := BlkH w.heap.size #[.int .i64 0, .int .i64 0, .int .i64 0, .bool false] 51) GR.out (Lifts.right GM2.out (chkFails_any x ring fr rs last s 3))) (H3.out)).mono ?_
  rintro e w9 ⟨rfl, h9⟩
  have H9 := Lib.hid h9
  obtain ⟨r0, r1, r2, r3, rz⟩ := four_cells h9.has.right.blk
  clear h9
  unfold ansV
  go_wp2_with fail
  refine bodyPost_ret (v := _) (by simp [results, Try.results52, go_sem, r0, r1, r2, r3]; rfl) rfl ?_
  exact ⟨rfl, (((((H9.out).move (Moves.right (GM2.out.star (BlkH.good _ _ _)) (BlkH.set 0 _))).move (Moves.right (GM2.out.star (BlkH.good _ _ _)) (BlkH.set 1 _))).move (Moves.right (GM2.out.star (BlkH.good _ _ _)) (BlkH.set 2 _))).move (Moves.right (GM2.out.star (BlkH.good _ _ _)) (BlkH.set 3 _))).fst⟩
set_option maxHeartbeats 2000000 in
theorem chkStep_next (p x ring cells : Nat) (l : List Acc) (hlen : l.length ≤ 3000000000000) (hr1 : 1 ≤ ring) (hr2 : ring ≤ 16) (m : Nat) (hm : m < 8) (fr : Int) (rs : Nat → Int) (last : Bool) (s : CS) (th : Int) (hst : s.st = 2) (hw : s.word = m) (hvI : I64 (wordOf l 3 (slotZ s.sk ring) m)) (hb : bits .and .u64 (IntKind.u64.wrap (wordOf l 3 (slotZ s.sk ring) m)) (rs m) = 0) (hx : nextW rs (m + 1) < 8) :
    Lifts Try.prog 52 #[.pointer (some ⟨x, 0, none⟩), .pointer (some ⟨p, 0, none⟩), .int .i64 th] (CStep p x ring cells l ring fr rs last s) (CStep p x ring cells (l ++ [ldAcc th 3 (slotZ s.sk ring) m (wordOf l 3 (slotZ s.sk ring) m)]) ring fr rs last ⟨2, s.start, s.seen, s.sk, (nextW rs (m + 1) : Nat)⟩) (.returned (ansV 2 0 0 true)) := by
  rintro w F hO
  have hxlt : x < w.heap.size := by
    obtain ⟨_, _, _, hx, _⟩ := hO
    exact heap_lt hx.1
  have hne : x ≠ w.heap.size := by omega
  have hne2 : w.heap.size ≠ x := by omega
  have GR := Lib.hid (BlkH.good w.heap.size #[.int .i64 0, .int .i64 0, .int .i64 0, .bool false] 51)
  have GMX := Lib.hid (CStep.good p x ring cells l ring fr rs last s)
  have H0 := Lib.hid ((Stp.refl hO).box GMX.out #[.int .i64 0, .int .i64 0, .int .i64 0, .bool false] 51)
  have HS := Lib.hid (Looks.left (B := BlkH w.heap.size #[.int .i64 0, .int .i64 0, .int .i64 0, .bool false] 51) (Looks.left (B := ChkH x ring fr rs last s) (sizes_any p ring cells l)))
  have e1 : ((ring : Int) != (ring : Int)) = false := by simp
  clear hO
  have GM2 := Lib.hid (MemH.good p ring cells (l ++ [ldAcc th 3 (slotZ s.sk ring) m (wordOf l 3 (slotZ s.sk ring) m)]))
  have HL := Lib.hid (Lifts.left (B := BlkH w.heap.size #[.int .i64 0, .int .i64 0, .int .i64 0, .bool false] 51) GR.out (Lifts.left (B := ChkH x ring fr rs last s) (BlkH.good _ _ _) (load_in p ring cells l hlen th 3 (slotZ s.sk ring) m (.inr (.inr (.inl ⟨rfl, slotZ_lt s.sk ring (by omega) (by omega), by omega, by omega⟩))))))
  generalize hV : wordOf l 3 (slotZ s.sk ring) m = v at *
  have HV := Lib.hid hV
  clear hV
  obtain ⟨hv1, hv2⟩ := hvI
  go_enter Try.func52, Try.ntmps52
  go_wp2_with fail
  refine (Stp.look (GMX.out.star GR.out) HS.out H0.out).mono ?_
  rintro e w1 ⟨rfl, h1⟩
  have H1 := Lib.hid h1
  obtain ⟨c0, c1, rd, c10, c11, c12, c13, c14, c15, fz⟩ := chk_cells h1.has.left.right.blk
  rw [hst] at c11
  clear h1 H0 HS rd
  rw [hw] at c15
  have e2 : (bits .and .u64 (IntKind.u64.wrap v) (rs m) != 0) = false := by simp [hb]
  clear hb
  go_wp2_with fail
  have H1D : Hid (Stp w w1.drew F _) := H1.out.drew (GMX.out.star GR.out)
  go_region_held3 (fun wx => wx.cell? ⟨x, 14, none⟩ = some (.int .i64 s.sk) ∧ wx.cell? ⟨x, 0, none⟩ = some (.int .i64 ring) ∧ wx.cell? ⟨x, 15, none⟩ = some (.int .i64 m)) (first | (exact ⟨c14, c0, c15⟩) | (refine ⟨?_, ?_, ?_⟩ <;> assumption)) (first | (go_at_call 69; refine (slot_any _ _ _).mono ?_; rintro e w' ⟨rfl, rfl⟩) | (go_at_call 68; refine (Stp.lift HL.out H1D.out).mono ?_; rintro e w2 ⟨rfl, h2⟩; have H2 := Lib.hid h2; have k0 := (chk_cells h2.has.left.right.blk).c0; have k14 := (chk_cells h2.has.left.right.blk).c14; have k15 := (chk_cells h2.has.left.right.blk).c15; rw [hw] at k15))
  clear HL c0 c1 c10 c11 c12 c13 c14 c15 fz H1 H1D h2 k0 k14 k15
  obtain ⟨c0, c1, rd, c10, c11, c12, c13, c14, c15, fz⟩ := chk_cells H2.out.has.left.right.blk
  rw [hw] at c15
  have cm := rd m hm
  have hm8 : (m : Int) < 8 := by omega
  have hm0 : (0 : Int) ≤ m := by omega
  clear rd
  go_wp2_with fail
  go_quiet (fail)
  have H3 : Hid (Stp w (w2.drewN nq) F _) := H2.out.below ((GM2.out.star (BlkH.good _ _ _)).star (BlkH.good _ _ _)) (below_drewN (Below.refl _ _) _)
  go_wp2_with fail
  refine (Stp.look ((GM2.out.star (BlkH.good _ _ _)).star (BlkH.good _ _ _)) (Looks.left (B := BlkH w.heap.size #[.int .i64 0, .int .i64 0, .int .i64 0, .bool false] 51) (Looks.right (A := MemH p ring cells (l ++ [ldAcc th 3 (slotZ s.sk ring) m v])) (chkBehind_any x ring fr rs last s m (m + 1) (by omega) (by omega)))) H3.out).mono ?_
  rintro e w5 ⟨rfl, h5⟩
  have H5 : Hid (Stp w (w5.setCell ⟨x, 15, none⟩ (.int .i64 (nextW rs (m + 1) : Nat))) F (Star (Star (MemH p ring cells (l ++ [ldAcc th 3 (slotZ s.sk ring) m v])) (ChkH x ring fr rs last ⟨s.st, s.start, s.seen, s.sk, (nextW rs (m + 1) : Nat)⟩)) (BlkH w.heap.size #[.int .i64 0, .int .i64 0, .int .i64 0, .bool false] 51))) := (h5).move (Moves.left (BlkH.good _ _ _) (Moves.right GM2.out (BlkH.set 15 _)))
  obtain ⟨c0, c1, rd, c10, c11, c12, c13, c14, c15, fz⟩ := chk_cells h5.has.left.right.blk
  clear h5 H3 rd
  generalize hnx : nextW rs (m + 1) = nx at *
  have HNX := Lib.hid hnx
  clear hnx
  have hx8 : (nx : Int) < 8 := by omega
  go_wp2_with fail
  refine (Stp.lift (Lifts.left (B := BlkH w.heap.size #[.int .i64 0, .int .i64 0, .int .i64 0, .bool false] 51) GR.out (Lifts.right GM2.out (chkMoves_on x ring fr rs last ⟨s.st, s.start, s.seen, s.sk, (nx : Nat)⟩ 2 (by decide)))) (H5.out)).mono ?_
  rintro e w9 ⟨rfl, h9⟩
  have H9 := Lib.hid h9
  obtain ⟨r0, r1, r2, r3, rz⟩ := four_cells h9.has.right.blk
  clear h9
  unfold ansV
  go_wp2_with fail
  refine bodyPost_ret (v := _) (by simp [results, Try.results52, go_sem, r0, r1, r2, r3]; rfl) rfl ?_
  rw [HNX.out]
  exact ⟨rfl, (((((H9.out).move (Moves.right (GM2.out.star (BlkH.good _ _ _)) (BlkH.set 0 _))).move (Moves.right (GM2.out.star (BlkH.good _ _ _)) (BlkH.set 1 _))).move (Moves.right (GM2.out.star (BlkH.good _ _ _)) (BlkH.set 2 _))).move (Moves.right (GM2.out.star (BlkH.good _ _ _)) (BlkH.set 3 _))).fst⟩
end Go.Proofs.Ytojkeahffabifaa
namespace Go.Proofs.Ytojkeahffabifaa
open Go.RowKit
set_option linter.unusedVariables false
set_option maxHeartbeats 2000000 in
theorem chkStep_stamp (p x ring cells : Nat) (l : List Acc) (hlen : l.length ≤ 3000000000000) (hr1 : 1 ≤ ring) (hr2 : ring ≤ 16) (m : Nat) (hm : m < 8) (fr : Int) (rs : Nat → Int) (last : Bool) (s : CS) (th : Int) (hst : s.st = 2) (hw : s.word = m) (hvI : I64 (wordOf l 3 (slotZ s.sk ring) m)) (hb : bits .and .u64 (IntKind.u64.wrap (wordOf l 3 (slotZ s.sk ring) m)) (rs m) = 0) (hx : ¬ nextW rs (m + 1) < 8) (hlt : s.sk < s.seen) (hse : s.seen ≤ 9223372036854775807) (hsk : 0 ≤ s.sk) :
    Lifts Try.prog 52 #[.pointer (some ⟨x, 0, none⟩), .pointer (some ⟨p, 0, none⟩), .int .i64 th] (CStep p x ring cells l ring fr rs last s) (CStep p x ring cells (l ++ [ldAcc th 3 (slotZ s.sk ring) m (wordOf l 3 (slotZ s.sk ring) m)]) ring fr rs last ⟨1, s.start, s.seen, s.sk + 1, (nextW rs (m + 1) : Nat)⟩) (.returned (ansV 2 0 0 true)) := by
  rintro w F hO
  have hxlt : x < w.heap.size := by
    obtain ⟨_, _, _, hx, _⟩ := hO
    exact heap_lt hx.1
  have hne : x ≠ w.heap.size := by omega
  have hne2 : w.heap.size ≠ x := by omega
  have GR := Lib.hid (BlkH.good w.heap.size #[.int .i64 0, .int .i64 0, .int .i64 0, .bool false] 51)
  have GMX := Lib.hid (CStep.good p x ring cells l ring fr rs last s)
  have H0 := Lib.hid ((Stp.refl hO).box GMX.out #[.int .i64 0, .int .i64 0, .int .i64 0, .bool false] 51)
  have HS := Lib.hid (Looks.left (B := BlkH w.heap.size #[.int .i64 0, .int .i64 0, .int .i64 0, .bool false] 51) (Looks.left (B := ChkH x ring fr rs last s) (sizes_any p ring cells l)))
  have e1 : ((ring : Int) != (ring : Int)) = false := by simp
  clear hO
  have GM2 := Lib.hid (MemH.good p ring cells (l ++ [ldAcc th 3 (slotZ s.sk ring) m (wordOf l 3 (slotZ s.sk ring) m)]))
  have HL := Lib.hid (Lifts.left (B := BlkH w.heap.size #[.int .i64 0, .int .i64 0, .int .i64 0, .bool false] 51) GR.out (Lifts.left (B := ChkH x ring fr rs last s) (BlkH.good _ _ _) (load_in p ring cells l hlen th 3 (slotZ s.sk ring) m (.inr (.inr (.inl ⟨rfl, slotZ_lt s.sk ring (by omega) (by omega), by omega, by omega⟩))))))
  generalize hV : wordOf l 3 (slotZ s.sk ring) m = v at *
  have HV := Lib.hid hV
  clear hV
  obtain ⟨hv1, hv2⟩ := hvI
  go_enter Try.func52, Try.ntmps52
  go_wp2_with fail
  refine (Stp.look (GMX.out.star GR.out) HS.out H0.out).mono ?_
  rintro e w1 ⟨rfl, h1⟩
  have H1 := Lib.hid h1
  obtain ⟨c0, c1, rd, c10, c11, c12, c13, c14, c15, fz⟩ := chk_cells h1.has.left.right.blk
  rw [hst] at c11
  clear h1 H0 HS rd
  rw [hw] at c15
  have e2 : (bits .and .u64 (IntKind.u64.wrap v) (rs m) != 0) = false := by simp [hb]
  clear hb
  go_wp2_with fail
  have H1D : Hid (Stp w w1.drew F _) := H1.out.drew (GMX.out.star GR.out)
  go_region_held3 (fun wx => wx.cell? ⟨x, 14, none⟩ = some (.int .i64 s.sk) ∧ wx.cell? ⟨x, 0, none⟩ = some (.int .i64 ring) ∧ wx.cell? ⟨x, 15, none⟩ = some (.int .i64 m)) (first | (exact ⟨c14, c0, c15⟩) | (refine ⟨?_, ?_, ?_⟩ <;> assumption)) (first | (go_at_call 69; refine (slot_any _ _ _).mono ?_; rintro e w' ⟨rfl, rfl⟩) | (go_at_call 68; refine (Stp.lift HL.out H1D.out).mono ?_; rintro e w2 ⟨rfl, h2⟩; have H2 := Lib.hid h2; have k0 := (chk_cells h2.has.left.right.blk).c0; have k14 := (chk_cells h2.has.left.right.blk).c14; have k15 := (chk_cells h2.has.left.right.blk).c15; rw [hw] at k15))
  clear HL c0 c1 c10 c11 c12 c13 c14 c15 fz H1 H1D h2 k0 k14 k15
  obtain ⟨c0, c1, rd, c10, c11, c12, c13, c14, c15, fz⟩ := chk_cells H2.out.has.left.right.blk
  rw [hw] at c15
  have cm := rd m hm
  have hm8 : (m : Int) < 8 := by omega
  have hm0 : (0 : Int) ≤ m := by omega
  clear rd
  go_wp2_with fail
  go_quiet (fail)
  have H3 : Hid (Stp w (w2.drewN nq) F _) := H2.out.below ((GM2.out.star (BlkH.good _ _ _)).star (BlkH.good _ _ _)) (below_drewN (Below.refl _ _) _)
  go_wp2_with fail
  refine (Stp.look ((GM2.out.star (BlkH.good _ _ _)).star (BlkH.good _ _ _)) (Looks.left (B := BlkH w.heap.size #[.int .i64 0, .int .i64 0, .int .i64 0, .bool false] 51) (Looks.right (A := MemH p ring cells (l ++ [ldAcc th 3 (slotZ s.sk ring) m v])) (chkBehind_any x ring fr rs last s m (m + 1) (by omega) (by omega)))) H3.out).mono ?_
  rintro e w5 ⟨rfl, h5⟩
  have H5 : Hid (Stp w (w5.setCell ⟨x, 15, none⟩ (.int .i64 (nextW rs (m + 1) : Nat))) F (Star (Star (MemH p ring cells (l ++ [ldAcc th 3 (slotZ s.sk ring) m v])) (ChkH x ring fr rs last ⟨s.st, s.start, s.seen, s.sk, (nextW rs (m + 1) : Nat)⟩)) (BlkH w.heap.size #[.int .i64 0, .int .i64 0, .int .i64 0, .bool false] 51))) := (h5).move (Moves.left (BlkH.good _ _ _) (Moves.right GM2.out (BlkH.set 15 _)))
  obtain ⟨c0, c1, rd, c10, c11, c12, c13, c14, c15, fz⟩ := chk_cells h5.has.left.right.blk
  clear h5 H3 rd
  generalize hnx : nextW rs (m + 1) = nx at *
  have HNX := Lib.hid hnx
  clear hnx
  have hx8 : ¬ (nx : Int) < 8 := by omega
  go_wp2_with fail
  generalize w5.setCell ⟨x, 15, none⟩ (.int .i64 (nx : Nat)) = w6 at *
  clear c0 c1 c10 c11 c12 c13 c14 c15 fz
  obtain ⟨c0, c1, rd, c10, c11, c12, c13, c14, c15, fz⟩ := chk_cells H5.out.has.left.right.blk
  clear rd
  go_quiet (fail)
  have H6 : Hid (Stp w (w6.drewN nq) F _) := H5.out.below ((GM2.out.star (BlkH.good _ _ _)).star (BlkH.good _ _ _)) (below_drewN (Below.refl _ _) _)
  go_wp2_with fail
  refine (Stp.lift (Lifts.left (B := BlkH w.heap.size #[.int .i64 0, .int .i64 0, .int .i64 0, .bool false] 51) GR.out (Lifts.right GM2.out (chkMoves_on x ring fr rs last ⟨s.st, s.start, s.seen, s.sk + 1, (nx : Nat)⟩ 1 (by decide)))) ((H6.out).move (Moves.left (BlkH.good _ _ _) (Moves.right GM2.out (BlkH.set 14 _))))).mono ?_
  rintro e w9 ⟨rfl, h9⟩
  have H9 := Lib.hid h9
  obtain ⟨r0, r1, r2, r3, rz⟩ := four_cells h9.has.right.blk
  clear h9
  unfold ansV
  go_wp2_with fail
  refine bodyPost_ret (v := _) (by simp [results, Try.results52, go_sem, r0, r1, r2, r3]; rfl) rfl ?_
  rw [HNX.out]
  exact ⟨rfl, (((((H9.out).move (Moves.right (GM2.out.star (BlkH.good _ _ _)) (BlkH.set 0 _))).move (Moves.right (GM2.out.star (BlkH.good _ _ _)) (BlkH.set 1 _))).move (Moves.right (GM2.out.star (BlkH.good _ _ _)) (BlkH.set 2 _))).move (Moves.right (GM2.out.star (BlkH.good _ _ _)) (BlkH.set 3 _))).fst⟩
set_option maxHeartbeats 2000000 in
theorem chkStep_last (p x ring cells : Nat) (l : List Acc) (hlen : l.length ≤ 3000000000000) (hr1 : 1 ≤ ring) (hr2 : ring ≤ 16) (m : Nat) (hm : m < 8) (fr : Int) (rs : Nat → Int) (last : Bool) (s : CS) (th : Int) (hst : s.st = 2) (hw : s.word = m) (hvI : I64 (wordOf l 3 (slotZ s.sk ring) m)) (hb : bits .and .u64 (IntKind.u64.wrap (wordOf l 3 (slotZ s.sk ring) m)) (rs m) = 0) (hx : ¬ nextW rs (m + 1) < 8) (hlt : ¬ s.sk < s.seen) (hla : last = true) :
    Lifts Try.prog 52 #[.pointer (some ⟨x, 0, none⟩), .pointer (some ⟨p, 0, none⟩), .int .i64 th] (CStep p x ring cells l ring fr rs last s) (CStep p x ring cells (l ++ [ldAcc th 3 (slotZ s.sk ring) m (wordOf l 3 (slotZ s.sk ring) m)]) ring fr rs last ⟨3, s.start, s.seen, s.sk, (nextW rs (m + 1) : Nat)⟩) (.returned (ansV 2 0 0 true)) := by
  rintro w F hO
  have hxlt : x < w.heap.size := by
    obtain ⟨_, _, _, hx, _⟩ := hO
    exact heap_lt hx.1
  have hne : x ≠ w.heap.size := by omega
  have hne2 : w.heap.size ≠ x := by omega
  have GR := Lib.hid (BlkH.good w.heap.size #[.int .i64 0, .int .i64 0, .int .i64 0, .bool false] 51)
  have GMX := Lib.hid (CStep.good p x ring cells l ring fr rs last s)
  have H0 := Lib.hid ((Stp.refl hO).box GMX.out #[.int .i64 0, .int .i64 0, .int .i64 0, .bool false] 51)
  have HS := Lib.hid (Looks.left (B := BlkH w.heap.size #[.int .i64 0, .int .i64 0, .int .i64 0, .bool false] 51) (Looks.left (B := ChkH x ring fr rs last s) (sizes_any p ring cells l)))
  have e1 : ((ring : Int) != (ring : Int)) = false := by simp
  clear hO
  have GM2 := Lib.hid (MemH.good p ring cells (l ++ [ldAcc th 3 (slotZ s.sk ring) m (wordOf l 3 (slotZ s.sk ring) m)]))
  have HL := Lib.hid (Lifts.left (B := BlkH w.heap.size #[.int .i64 0, .int .i64 0, .int .i64 0, .bool false] 51) GR.out (Lifts.left (B := ChkH x ring fr rs last s) (BlkH.good _ _ _) (load_in p ring cells l hlen th 3 (slotZ s.sk ring) m (.inr (.inr (.inl ⟨rfl, slotZ_lt s.sk ring (by omega) (by omega), by omega, by omega⟩))))))
  generalize hV : wordOf l 3 (slotZ s.sk ring) m = v at *
  have HV := Lib.hid hV
  clear hV
  obtain ⟨hv1, hv2⟩ := hvI
  go_enter Try.func52, Try.ntmps52
  go_wp2_with fail
  refine (Stp.look (GMX.out.star GR.out) HS.out H0.out).mono ?_
  rintro e w1 ⟨rfl, h1⟩
  have H1 := Lib.hid h1
  obtain ⟨c0, c1, rd, c10, c11, c12, c13, c14, c15, fz⟩ := chk_cells h1.has.left.right.blk
  rw [hst] at c11
  clear h1 H0 HS rd
  rw [hw] at c15
  have e2 : (bits .and .u64 (IntKind.u64.wrap v) (rs m) != 0) = false := by simp [hb]
  clear hb
  have hltn : decide (s.sk < s.seen) = false := by simpa using hlt
  go_wp2_with fail
  have H1D : Hid (Stp w w1.drew F _) := H1.out.drew (GMX.out.star GR.out)
  go_region_held3 (fun wx => wx.cell? ⟨x, 14, none⟩ = some (.int .i64 s.sk) ∧ wx.cell? ⟨x, 0, none⟩ = some (.int .i64 ring) ∧ wx.cell? ⟨x, 15, none⟩ = some (.int .i64 m)) (first | (exact ⟨c14, c0, c15⟩) | (refine ⟨?_, ?_, ?_⟩ <;> assumption)) (first | (go_at_call 69; refine (slot_any _ _ _).mono ?_; rintro e w' ⟨rfl, rfl⟩) | (go_at_call 68; refine (Stp.lift HL.out H1D.out).mono ?_; rintro e w2 ⟨rfl, h2⟩; have H2 := Lib.hid h2; have k0 := (chk_cells h2.has.left.right.blk).c0; have k14 := (chk_cells h2.has.left.right.blk).c14; have k15 := (chk_cells h2.has.left.right.blk).c15; rw [hw] at k15))
  clear HL c0 c1 c10 c11 c12 c13 c14 c15 fz H1 H1D h2 k0 k14 k15
  obtain ⟨c0, c1, rd, c10, c11, c12, c13, c14, c15, fz⟩ := chk_cells H2.out.has.left.right.blk
  rw [hw] at c15
  have cm := rd m hm
  have hm8 : (m : Int) < 8 := by omega
  have hm0 : (0 : Int) ≤ m := by omega
  clear rd
  go_wp2_with fail
  go_quiet (fail)
  have H3 : Hid (Stp w (w2.drewN nq) F _) := H2.out.below ((GM2.out.star (BlkH.good _ _ _)).star (BlkH.good _ _ _)) (below_drewN (Below.refl _ _) _)
  go_wp2_with fail
  refine (Stp.look ((GM2.out.star (BlkH.good _ _ _)).star (BlkH.good _ _ _)) (Looks.left (B := BlkH w.heap.size #[.int .i64 0, .int .i64 0, .int .i64 0, .bool false] 51) (Looks.right (A := MemH p ring cells (l ++ [ldAcc th 3 (slotZ s.sk ring) m v])) (chkBehind_any x ring fr rs last s m (m + 1) (by omega) (by omega)))) H3.out).mono ?_
  rintro e w5 ⟨rfl, h5⟩
  have H5 : Hid (Stp w (w5.setCell ⟨x, 15, none⟩ (.int .i64 (nextW rs (m + 1) : Nat))) F (Star (Star (MemH p ring cells (l ++ [ldAcc th 3 (slotZ s.sk ring) m v])) (ChkH x ring fr rs last ⟨s.st, s.start, s.seen, s.sk, (nextW rs (m + 1) : Nat)⟩)) (BlkH w.heap.size #[.int .i64 0, .int .i64 0, .int .i64 0, .bool false] 51))) := (h5).move (Moves.left (BlkH.good _ _ _) (Moves.right GM2.out (BlkH.set 15 _)))
  obtain ⟨c0, c1, rd, c10, c11, c12, c13, c14, c15, fz⟩ := chk_cells h5.has.left.right.blk
  clear h5 H3 rd
  generalize hnx : nextW rs (m + 1) = nx at *
  have HNX := Lib.hid hnx
  clear hnx
  have hx8 : ¬ (nx : Int) < 8 := by omega
  subst hla
  go_wp2_with fail
  generalize w5.setCell ⟨x, 15, none⟩ (.int .i64 (nx : Nat)) = w6 at *
  clear c0 c1 c10 c11 c12 c13 c14 c15 fz
  obtain ⟨c0, c1, rd, c10, c11, c12, c13, c14, c15, fz⟩ := chk_cells H5.out.has.left.right.blk
  clear rd
  go_quiet (fail)
  have H6 : Hid (Stp w (w6.drewN nq) F _) := H5.out.below ((GM2.out.star (BlkH.good _ _ _)).star (BlkH.good _ _ _)) (below_drewN (Below.refl _ _) _)
  go_wp2_with fail
  refine (Stp.lift (Lifts.left (B := BlkH w.heap.size #[.int .i64 0, .int .i64 0, .int .i64 0, .bool false] 51) GR.out (Lifts.right GM2.out (chkMoves_on x ring fr rs true ⟨s.st, s.start, s.seen, s.sk, (nx : Nat)⟩ 3 (by decide)))) (H6.out)).mono ?_
  rintro e w9 ⟨rfl, h9⟩
  have H9 := Lib.hid h9
  obtain ⟨r0, r1, r2, r3, rz⟩ := four_cells h9.has.right.blk
  clear h9
  unfold ansV
  go_wp2_with fail
  refine bodyPost_ret (v := _) (by simp [results, Try.results52, go_sem, r0, r1, r2, r3]; rfl) rfl ?_
  rw [HNX.out]
  exact ⟨rfl, (((((H9.out).move (Moves.right (GM2.out.star (BlkH.good _ _ _)) (BlkH.set 0 _))).move (Moves.right (GM2.out.star (BlkH.good _ _ _)) (BlkH.set 1 _))).move (Moves.right (GM2.out.star (BlkH.good _ _ _)) (BlkH.set 2 _))).move (Moves.right (GM2.out.star (BlkH.good _ _ _)) (BlkH.set 3 _))).fst⟩
set_option maxHeartbeats 2000000 in
theorem chkStep_thr (p x ring cells : Nat) (l : List Acc) (hlen : l.length ≤ 3000000000000) (hr1 : 1 ≤ ring) (hr2 : ring ≤ 16) (m : Nat) (hm : m < 8) (fr : Int) (rs : Nat → Int) (last : Bool) (s : CS) (th : Int) (hst : s.st = 2) (hw : s.word = m) (hvI : I64 (wordOf l 3 (slotZ s.sk ring) m)) (hb : bits .and .u64 (IntKind.u64.wrap (wordOf l 3 (slotZ s.sk ring) m)) (rs m) = 0) (hx : ¬ nextW rs (m + 1) < 8) (hlt : ¬ s.sk < s.seen) (hla : last = false) :
    Lifts Try.prog 52 #[.pointer (some ⟨x, 0, none⟩), .pointer (some ⟨p, 0, none⟩), .int .i64 th] (CStep p x ring cells l ring fr rs last s) (CStep p x ring cells (l ++ [ldAcc th 3 (slotZ s.sk ring) m (wordOf l 3 (slotZ s.sk ring) m)]) ring fr rs last ⟨4, s.start, s.seen, s.sk, (nextW rs (m + 1) : Nat)⟩) (.returned (ansV 3 0 0 true)) := by
  rintro w F hO
  have hxlt : x < w.heap.size := by
    obtain ⟨_, _, _, hx, _⟩ := hO
    exact heap_lt hx.1
  have hne : x ≠ w.heap.size := by omega
  have hne2 : w.heap.size ≠ x := by omega
  have GR := Lib.hid (BlkH.good w.heap.size #[.int .i64 0, .int .i64 0, .int .i64 0, .bool false] 51)
  have GMX := Lib.hid (CStep.good p x ring cells l ring fr rs last s)
  have H0 := Lib.hid ((Stp.refl hO).box GMX.out #[.int .i64 0, .int .i64 0, .int .i64 0, .bool false] 51)
  have HS := Lib.hid (Looks.left (B := BlkH w.heap.size #[.int .i64 0, .int .i64 0, .int .i64 0, .bool false] 51) (Looks.left (B := ChkH x ring fr rs last s) (sizes_any p ring cells l)))
  have e1 : ((ring : Int) != (ring : Int)) = false := by simp
  clear hO
  have GM2 := Lib.hid (MemH.good p ring cells (l ++ [ldAcc th 3 (slotZ s.sk ring) m (wordOf l 3 (slotZ s.sk ring) m)]))
  have HL := Lib.hid (Lifts.left (B := BlkH w.heap.size #[.int .i64 0, .int .i64 0, .int .i64 0, .bool false] 51) GR.out (Lifts.left (B := ChkH x ring fr rs last s) (BlkH.good _ _ _) (load_in p ring cells l hlen th 3 (slotZ s.sk ring) m (.inr (.inr (.inl ⟨rfl, slotZ_lt s.sk ring (by omega) (by omega), by omega, by omega⟩))))))
  generalize hV : wordOf l 3 (slotZ s.sk ring) m = v at *
  have HV := Lib.hid hV
  clear hV
  obtain ⟨hv1, hv2⟩ := hvI
  go_enter Try.func52, Try.ntmps52
  go_wp2_with fail
  refine (Stp.look (GMX.out.star GR.out) HS.out H0.out).mono ?_
  rintro e w1 ⟨rfl, h1⟩
  have H1 := Lib.hid h1
  obtain ⟨c0, c1, rd, c10, c11, c12, c13, c14, c15, fz⟩ := chk_cells h1.has.left.right.blk
  rw [hst] at c11
  clear h1 H0 HS rd
  rw [hw] at c15
  have e2 : (bits .and .u64 (IntKind.u64.wrap v) (rs m) != 0) = false := by simp [hb]
  clear hb
  have hltn : decide (s.sk < s.seen) = false := by simpa using hlt
  go_wp2_with fail
  have H1D : Hid (Stp w w1.drew F _) := H1.out.drew (GMX.out.star GR.out)
  go_region_held3 (fun wx => wx.cell? ⟨x, 14, none⟩ = some (.int .i64 s.sk) ∧ wx.cell? ⟨x, 0, none⟩ = some (.int .i64 ring) ∧ wx.cell? ⟨x, 15, none⟩ = some (.int .i64 m)) (first | (exact ⟨c14, c0, c15⟩) | (refine ⟨?_, ?_, ?_⟩ <;> assumption)) (first | (go_at_call 69; refine (slot_any _ _ _).mono ?_; rintro e w' ⟨rfl, rfl⟩) | (go_at_call 68; refine (Stp.lift HL.out H1D.out).mono ?_; rintro e w2 ⟨rfl, h2⟩; have H2 := Lib.hid h2; have k0 := (chk_cells h2.has.left.right.blk).c0; have k14 := (chk_cells h2.has.left.right.blk).c14; have k15 := (chk_cells h2.has.left.right.blk).c15; rw [hw] at k15))
  clear HL c0 c1 c10 c11 c12 c13 c14 c15 fz H1 H1D h2 k0 k14 k15
  obtain ⟨c0, c1, rd, c10, c11, c12, c13, c14, c15, fz⟩ := chk_cells H2.out.has.left.right.blk
  rw [hw] at c15
  have cm := rd m hm
  have hm8 : (m : Int) < 8 := by omega
  have hm0 : (0 : Int) ≤ m := by omega
  clear rd
  go_wp2_with fail
  go_quiet (fail)
  have H3 : Hid (Stp w (w2.drewN nq) F _) := H2.out.below ((GM2.out.star (BlkH.good _ _ _)).star (BlkH.good _ _ _)) (below_drewN (Below.refl _ _) _)
  go_wp2_with fail
  refine (Stp.look ((GM2.out.star (BlkH.good _ _ _)).star (BlkH.good _ _ _)) (Looks.left (B := BlkH w.heap.size #[.int .i64 0, .int .i64 0, .int .i64 0, .bool false] 51) (Looks.right (A := MemH p ring cells (l ++ [ldAcc th 3 (slotZ s.sk ring) m v])) (chkBehind_any x ring fr rs last s m (m + 1) (by omega) (by omega)))) H3.out).mono ?_
  rintro e w5 ⟨rfl, h5⟩
  have H5 : Hid (Stp w (w5.setCell ⟨x, 15, none⟩ (.int .i64 (nextW rs (m + 1) : Nat))) F (Star (Star (MemH p ring cells (l ++ [ldAcc th 3 (slotZ s.sk ring) m v])) (ChkH x ring fr rs last ⟨s.st, s.start, s.seen, s.sk, (nextW rs (m + 1) : Nat)⟩)) (BlkH w.heap.size #[.int .i64 0, .int .i64 0, .int .i64 0, .bool false] 51))) := (h5).move (Moves.left (BlkH.good _ _ _) (Moves.right GM2.out (BlkH.set 15 _)))
  obtain ⟨c0, c1, rd, c10, c11, c12, c13, c14, c15, fz⟩ := chk_cells h5.has.left.right.blk
  clear h5 H3 rd
  generalize hnx : nextW rs (m + 1) = nx at *
  have HNX := Lib.hid hnx
  clear hnx
  have hx8 : ¬ (nx : Int) < 8 := by omega
  subst hla
  go_wp2_with fail
  generalize w5.setCell ⟨x, 15, none⟩ (.int .i64 (nx : Nat)) = w6 at *
  clear c0 c1 c10 c11 c12 c13 c14 c15 fz
  obtain ⟨c0, c1, rd, c10, c11, c12, c13, c14, c15, fz⟩ := chk_cells H5.out.has.left.right.blk
  clear rd
  go_quiet (fail)
  have H6 : Hid (Stp w (w6.drewN nq) F _) := H5.out.below ((GM2.out.star (BlkH.good _ _ _)).star (BlkH.good _ _ _)) (below_drewN (Below.refl _ _) _)
  go_wp2_with fail
  refine (Stp.lift (Lifts.left (B := BlkH w.heap.size #[.int .i64 0, .int .i64 0, .int .i64 0, .bool false] 51) GR.out (Lifts.right GM2.out (chkMoves_thr x ring fr rs false ⟨s.st, s.start, s.seen, s.sk, (nx : Nat)⟩))) (H6.out)).mono ?_
  rintro e w9 ⟨rfl, h9⟩
  have H9 := Lib.hid h9
  obtain ⟨r0, r1, r2, r3, rz⟩ := four_cells h9.has.right.blk
  clear h9
  unfold ansV
  go_wp2_with fail
  refine bodyPost_ret (v := _) (by simp [results, Try.results52, go_sem, r0, r1, r2, r3]; rfl) rfl ?_
  rw [HNX.out]
  exact ⟨rfl, (((((H9.out).move (Moves.right (GM2.out.star (BlkH.good _ _ _)) (BlkH.set 0 _))).move (Moves.right (GM2.out.star (BlkH.good _ _ _)) (BlkH.set 1 _))).move (Moves.right (GM2.out.star (BlkH.good _ _ _)) (BlkH.set 2 _))).move (Moves.right (GM2.out.star (BlkH.good _ _ _)) (BlkH.set 3 _))).fst⟩
end Go.Proofs.Ytojkeahffabifaa
namespace Go.Proofs.Ytojkeahffabifaa
open Go.RowKit
set_option linter.unusedVariables false
set_option maxHeartbeats 2000000 in
theorem chkStep_again1 (p x ring cells : Nat) (l : List Acc) (hlen : l.length ≤ 3000000000000) (hr1 : 1 ≤ ring) (hr2 : ring ≤ 16) (fr : Int) (rs : Nat → Int) (last : Bool) (s : CS) (th : Int) (hf : 0 ≤ fr) (hst : s.st = 3) (hvI : I64 (wordOf l 1 0 0)) (hfar : farB ring fr (wordOf l 1 0 0) = true) :
    Lifts Try.prog 52 #[.pointer (some ⟨x, 0, none⟩), .pointer (some ⟨p, 0, none⟩), .int .i64 th] (CStep p x ring cells l ring fr rs last s) (CStep p x ring cells (l ++ [ldAcc th 1 0 0 (wordOf l 1 0 0)]) ring fr rs last ⟨5, s.start, s.seen, s.sk, s.word⟩) (.returned (ansV 4 4 0 true)) := by
  rintro w F hO
  have hxlt : x < w.heap.size := by
    obtain ⟨_, _, _, hx, _⟩ := hO
    exact heap_lt hx.1
  have hne : x ≠ w.heap.size := by omega
  have hne2 : w.heap.size ≠ x := by omega
  have GR := Lib.hid (BlkH.good w.heap.size #[.int .i64 0, .int .i64 0, .int .i64 0, .bool false] 51)
  have GMX := Lib.hid (CStep.good p x ring cells l ring fr rs last s)
  have H0 := Lib.hid ((Stp.refl hO).box GMX.out #[.int .i64 0, .int .i64 0, .int .i64 0, .bool false] 51)
  have HS := Lib.hid (Looks.left (B := BlkH w.heap.size #[.int .i64 0, .int .i64 0, .int .i64 0, .bool false] 51) (Looks.left (B := ChkH x ring fr rs last s) (sizes_any p ring cells l)))
  have e1 : ((ring : Int) != (ring : Int)) = false := by simp
  clear hO
  have GM2 := Lib.hid (MemH.good p ring cells (l ++ [ldAcc th 1 0 0 (wordOf l 1 0 0)]))
  have HL := Lib.hid (Lifts.left (B := BlkH w.heap.size #[.int .i64 0, .int .i64 0, .int .i64 0, .bool false] 51) GR.out (Lifts.left (B := ChkH x ring fr rs last s) (BlkH.good _ _ _) (load_in p ring cells l hlen th 1 0 0 (.inl ⟨rfl, rfl, rfl⟩))))
  generalize hV : wordOf l 1 0 0 = v at *
  have HV := Lib.hid hV
  clear hV
  obtain ⟨hv1, hv2⟩ := hvI
  go_enter Try.func52, Try.ntmps52
  go_wp2_with fail
  refine (Stp.look (GMX.out.star GR.out) HS.out H0.out).mono ?_
  rintro e w1 ⟨rfl, h1⟩
  have H1 := Lib.hid h1
  obtain ⟨c0, c1, rd, c10, c11, c12, c13, c14, c15, fz⟩ := chk_cells h1.has.left.right.blk
  rw [hst] at c11
  clear h1 H0 HS rd
  go_wp2_with fail
  refine (Stp.lift HL.out H1.out).mono ?_
  rintro e w2 ⟨rfl, h2⟩
  have H2 := Lib.hid h2
  clear h2 HL c0 c1 c10 c11 c12 c13 c14 c15 fz H1
  go_wp2_with fail
  refine (Stp.look ((GM2.out.star (BlkH.good _ _ _)).star (BlkH.good _ _ _)) (Looks.left (B := BlkH w.heap.size #[.int .i64 0, .int .i64 0, .int .i64 0, .bool false] 51) (Looks.right (A := MemH p ring cells (l ++ [ldAcc th 1 0 0 v])) (chkFar_any x ring hr2 fr hf rs last s v ⟨hv1, hv2⟩))) H2.out).mono ?_
  rw [hfar]
  rintro e w5 ⟨rfl, h5⟩
  have H5 := Lib.hid h5
  clear h5 H2
  go_wp2_with fail
  refine (Stp.lift (Lifts.left (B := BlkH w.heap.size #[.int .i64 0, .int .i64 0, .int .i64 0, .bool false] 51) GR.out (Lifts.right GM2.out (chkFails_any x ring fr rs last s 4))) (H5.out)).mono ?_
  rintro e w9 ⟨rfl, h9⟩
  have H9 := Lib.hid h9
  obtain ⟨r0, r1, r2, r3, rz⟩ := four_cells h9.has.right.blk
  clear h9
  unfold ansV
  go_wp2_with fail
  refine bodyPost_ret (v := _) (by simp [results, Try.results52, go_sem, r0, r1, r2, r3]; rfl) rfl ?_
  exact ⟨rfl, (((((H9.out).move (Moves.right (GM2.out.star (BlkH.good _ _ _)) (BlkH.set 0 _))).move (Moves.right (GM2.out.star (BlkH.good _ _ _)) (BlkH.set 1 _))).move (Moves.right (GM2.out.star (BlkH.good _ _ _)) (BlkH.set 2 _))).move (Moves.right (GM2.out.star (BlkH.good _ _ _)) (BlkH.set 3 _))).fst⟩
set_option maxHeartbeats 2000000 in
theorem chkStep_again0 (p x ring cells : Nat) (l : List Acc) (hlen : l.length ≤ 3000000000000) (hr1 : 1 ≤ ring) (hr2 : ring ≤ 16) (fr : Int) (rs : Nat → Int) (last : Bool) (s : CS) (th : Int) (hf : 0 ≤ fr) (hst : s.st = 3) (hvI : I64 (wordOf l 1 0 0)) (hfar : farB ring fr (wordOf l 1 0 0) = false) :
    Lifts Try.prog 52 #[.pointer (some ⟨x, 0, none⟩), .pointer (some ⟨p, 0, none⟩), .int .i64 th] (CStep p x ring cells l ring fr rs last s) (CStep p x ring cells (l ++ [ldAcc th 1 0 0 (wordOf l 1 0 0)]) ring fr rs last ⟨4, s.start, s.seen, s.sk, s.word⟩) (.returned (ansV 3 0 0 true)) := by
  rintro w F hO
  have hxlt : x < w.heap.size := by
    obtain ⟨_, _, _, hx, _⟩ := hO
    exact heap_lt hx.1
  have hne : x ≠ w.heap.size := by omega
  have hne2 : w.heap.size ≠ x := by omega
  have GR := Lib.hid (BlkH.good w.heap.size #[.int .i64 0, .int .i64 0, .int .i64 0, .bool false] 51)
  have GMX := Lib.hid (CStep.good p x ring cells l ring fr rs last s)
  have H0 := Lib.hid ((Stp.refl hO).box GMX.out #[.int .i64 0, .int .i64 0, .int .i64 0, .bool false] 51)
  have HS := Lib.hid (Looks.left (B := BlkH w.heap.size #[.int .i64 0, .int .i64 0, .int .i64 0, .bool false] 51) (Looks.left (B := ChkH x ring fr rs last s) (sizes_any p ring cells l)))
  have e1 : ((ring : Int) != (ring : Int)) = false := by simp
  clear hO
  have GM2 := Lib.hid (MemH.good p ring cells (l ++ [ldAcc th 1 0 0 (wordOf l 1 0 0)]))
  have HL := Lib.hid (Lifts.left (B := BlkH w.heap.size #[.int .i64 0, .int .i64 0, .int .i64 0, .bool false] 51) GR.out (Lifts.left (B := ChkH x ring fr rs last s) (BlkH.good _ _ _) (load_in p ring cells l hlen th 1 0 0 (.inl ⟨rfl, rfl, rfl⟩))))
  generalize hV : wordOf l 1 0 0 = v at *
  have HV := Lib.hid hV
  clear hV
  obtain ⟨hv1, hv2⟩ := hvI
  go_enter Try.func52, Try.ntmps52
  go_wp2_with fail
  refine (Stp.look (GMX.out.star GR.out) HS.out H0.out).mono ?_
  rintro e w1 ⟨rfl, h1⟩
  have H1 := Lib.hid h1
  obtain ⟨c0, c1, rd, c10, c11, c12, c13, c14, c15, fz⟩ := chk_cells h1.has.left.right.blk
  rw [hst] at c11
  clear h1 H0 HS rd
  go_wp2_with fail
  refine (Stp.lift HL.out H1.out).mono ?_
  rintro e w2 ⟨rfl, h2⟩
  have H2 := Lib.hid h2
  clear h2 HL c0 c1 c10 c11 c12 c13 c14 c15 fz H1
  go_wp2_with fail
  refine (Stp.look ((GM2.out.star (BlkH.good _ _ _)).star (BlkH.good _ _ _)) (Looks.left (B := BlkH w.heap.size #[.int .i64 0, .int .i64 0, .int .i64 0, .bool false] 51) (Looks.right (A := MemH p ring cells (l ++ [ldAcc th 1 0 0 v])) (chkFar_any x ring hr2 fr hf rs last s v ⟨hv1, hv2⟩))) H2.out).mono ?_
  rw [hfar]
  rintro e w5 ⟨rfl, h5⟩
  have H5 := Lib.hid h5
  clear h5 H2
  go_wp2_with fail
  refine (Stp.lift (Lifts.left (B := BlkH w.heap.size #[.int .i64 0, .int .i64 0, .int .i64 0, .bool false] 51) GR.out (Lifts.right GM2.out (chkMoves_thr x ring fr rs last s))) (H5.out)).mono ?_
  rintro e w9 ⟨rfl, h9⟩
  have H9 := Lib.hid h9
  obtain ⟨r0, r1, r2, r3, rz⟩ := four_cells h9.has.right.blk
  clear h9
  unfold ansV
  go_wp2_with fail
  refine bodyPost_ret (v := _) (by simp [results, Try.results52, go_sem, r0, r1, r2, r3]; rfl) rfl ?_
  exact ⟨rfl, (((((H9.out).move (Moves.right (GM2.out.star (BlkH.good _ _ _)) (BlkH.set 0 _))).move (Moves.right (GM2.out.star (BlkH.good _ _ _)) (BlkH.set 1 _))).move (Moves.right (GM2.out.star (BlkH.good _ _ _)) (BlkH.set 2 _))).move (Moves.right (GM2.out.star (BlkH.good _ _ _)) (BlkH.set 3 _))).fst⟩
/-- The machine's numbers. -/
def KRng (s : CS) : Prop := (s.st = 0 ∨ s.st = 3) ∨ (s.st = 1 ∧ 1 ≤ s.sk ∧ s.sk ≤ 9223372036854775807) ∨ (s.st = 2 ∧ (0 ≤ s.sk ∧ s.seen ≤ 9223372036854775807) ∧ ∃ m : Nat, m < 8 ∧ s.word = m)
theorem chkStep_go (p x ring cells : Nat) (l : List Acc) (hlen : l.length ≤ 3000000000000) (hr1 : 1 ≤ ring) (hr2 : ring ≤ 16) (fr : Int) (hf : 0 ≤ fr) (rs : Nat → Int) (hrs : Wds rs) (last : Bool) (s : CS) (th : Int) (hk : KRng s) (a b c : Int) (ha : addrK ring s = (a, b, c)) (v : Int) (hv : wordOf l a b c = v) (hvI : I64 v) (s' : CS) (kd er : Int) (hs : stepK ring fr rs last s v = (s', kd, er)) :
    Lifts Try.prog 52 #[.pointer (some ⟨x, 0, none⟩), .pointer (some ⟨p, 0, none⟩), .int .i64 th] (CStep p x ring cells l ring fr rs last s) (CStep p x ring cells (l ++ [ldAcc th a b c v]) ring fr rs last s') (.returned (ansV kd er 0 true)) := by
  subst hv
  rcases hk with (h0 | h0) | ⟨h0, h1, h2⟩ | ⟨h0, ⟨h1, h2⟩, m, hm, hw⟩
  · unfold addrK at ha
    rw [if_pos (.inl h0)] at ha
    obtain ⟨rfl, rfl, rfl⟩ : 1 = a ∧ 0 = b ∧ 0 = c := by simpa using ha
    unfold stepK at hs
    rw [if_pos h0] at hs
    refine chkStep_first p x ring cells l _ (CStep.good _ _ _ _ _ _ _ _ _ _) kd er fr rs last s th h0 ?_
    cases hz : zeroS rs with
    | true =>
      rw [if_pos (.inl hz)] at hs
      obtain ⟨rfl, rfl, rfl⟩ := by simpa using hs
      exact chkFirst_zero p x ring cells l hlen hr1 hr2 fr hf rs hrs last s th hvI hz
    | false =>
      by_cases ho : wordOf l 1 0 0 ≤ fr
      · rw [if_pos (.inr ho)] at hs
        obtain ⟨rfl, rfl, rfl⟩ := by simpa using hs
        exact chkFirst_old p x ring cells l hlen hr1 hr2 fr hf rs hrs last s th hvI hz ho
      · rw [if_neg (by rw [hz]; simp; omega)] at hs
        cases hfar : farB ring fr (wordOf l 1 0 0) with
        | true =>
          rw [if_pos hfar] at hs
          obtain ⟨rfl, rfl, rfl⟩ := by simpa using hs
          exact chkFirst_far p x ring cells l hlen hr1 hr2 fr hf rs hrs last s th hvI hz ho hfar
        | false =>
          rw [if_neg (by rw [hfar]; decide)] at hs
          obtain ⟨rfl, rfl, rfl⟩ := by simpa using hs
          exact chkFirst_on p x ring cells l hlen hr1 hr2 fr hf rs hrs last s th hvI hz ho hfar
  · unfold addrK at ha
    rw [if_pos (.inr h0)] at ha
    obtain ⟨rfl, rfl, rfl⟩ : 1 = a ∧ 0 = b ∧ 0 = c := by simpa using ha
    unfold stepK at hs
    rw [if_neg (by omega), if_neg (by omega), if_neg (by omega)] at hs
    cases hfar : farB ring fr (wordOf l 1 0 0) with
    | true =>
      rw [if_pos hfar] at hs
      obtain ⟨rfl, rfl, rfl⟩ := by simpa using hs
      exact chkStep_again1 p x ring cells l hlen hr1 hr2 fr rs last s th hf h0 hvI hfar
    | false =>
      rw [if_neg (by rw [hfar]; decide)] at hs
      obtain ⟨rfl, rfl, rfl⟩ := by simpa using hs
      exact chkStep_again0 p x ring cells l hlen hr1 hr2 fr rs last s th hf h0 hvI hfar
  · unfold addrK at ha
    rw [if_neg (by omega), if_pos h0] at ha
    obtain ⟨rfl, rfl, rfl⟩ : 2 = a ∧ slotZ s.sk ring = b ∧ 0 = c := by simpa using ha
    unfold stepK at hs
    rw [if_neg (by omega), if_pos h0] at hs
    refine chkStep_head p x ring cells l _ (CStep.good _ _ _ _ _ _ _ _ _ _) kd er fr rs last s th h0 ?_
    by_cases hc : wordOf l 2 (slotZ s.sk ring) 0 / 2 < s.sk
    · rw [if_pos hc] at hs
      obtain ⟨rfl, rfl, rfl⟩ := by simpa using hs
      exact chkHead_wait p x ring cells l hlen hr1 hr2 fr hf rs hrs last _ th hvI h1 h2 hc
    · rw [if_neg hc] at hs
      by_cases hg : s.sk < wordOf l 2 (slotZ s.sk ring) 0 / 2
      · rw [if_pos hg] at hs
        obtain ⟨rfl, rfl, rfl⟩ := by simpa using hs
        exact chkHead_over p x ring cells l hlen hr1 hr2 fr hf rs hrs last s th hvI h1 h2 hc hg
      · rw [if_neg hg] at hs
        have he : wordOf l 2 (slotZ s.sk ring) 0 / 2 = s.sk := by omega
        by_cases hd : wordOf l 2 (slotZ s.sk ring) 0 % 2 = 1
        · by_cases hst : s.start = s.sk - 1
          · rw [if_pos ⟨hd, hst⟩] at hs
            obtain ⟨rfl, rfl, rfl⟩ := by simpa using hs
            exact chkHead_more p x ring cells l hlen hr1 hr2 fr hf rs hrs last s th hvI h1 h2 he hd hst
          · rw [if_neg (fun h => hst h.2)] at hs
            obtain ⟨rfl, rfl, rfl⟩ := by simpa using hs
            exact chkHead_same p x ring cells l hlen hr1 hr2 fr hf rs hrs last s th hvI h1 h2 he hd hst
        · rw [if_neg (fun h => hd h.1)] at hs
          obtain ⟨rfl, rfl, rfl⟩ := by simpa using hs
          exact chkHead_raw p x ring cells l hlen hr1 hr2 fr hf rs hrs last s th hvI h1 h2 he hd
  · unfold addrK at ha
    rw [if_neg (by omega), if_neg (by omega)] at ha
    rw [hw] at ha
    obtain ⟨rfl, rfl, rfl⟩ : 3 = a ∧ slotZ s.sk ring = b ∧ (m : Int) = c := by simpa using ha
    unfold stepK at hs
    rw [if_neg (by omega), if_neg (by omega), if_pos h0] at hs
    rw [hw, Int.toNat_natCast] at hs
    by_cases hb : bits .and .u64 (IntKind.u64.wrap (wordOf l 3 (slotZ s.sk ring) m)) (rs m) ≠ 0
    · rw [if_pos hb] at hs
      obtain ⟨rfl, rfl, rfl⟩ := by simpa using hs
      have h := chkStep_conflict p x ring cells l hlen hr1 hr2 m hm fr rs last s th h0 hw hvI hb
      rwa [hw] at h
    · rw [if_neg hb] at hs
      have hb' : bits .and .u64 (IntKind.u64.wrap (wordOf l 3 (slotZ s.sk ring) m)) (rs m) = 0 := Classical.byContradiction hb
      by_cases hx : nextW rs (m + 1) < 8
      · rw [if_pos hx] at hs
        obtain ⟨rfl, rfl, rfl⟩ := by simpa using hs
        rw [h0]
        exact chkStep_next p x ring cells l hlen hr1 hr2 m hm fr rs last s th h0 hw hvI hb' hx
      · rw [if_neg hx] at hs
        by_cases hlt : s.sk < s.seen
        · rw [if_pos hlt] at hs
          obtain ⟨rfl, rfl, rfl⟩ := by simpa using hs
          exact chkStep_stamp p x ring cells l hlen hr1 hr2 m hm fr rs last s th h0 hw hvI hb' hx hlt h2 h1
        · rw [if_neg hlt] at hs
          cases hla : last with
          | true =>
            rw [if_pos hla] at hs
            obtain ⟨rfl, rfl, rfl⟩ := by simpa using hs
            subst hla
            exact chkStep_last p x ring cells l hlen hr1 hr2 m hm fr rs true s th h0 hw hvI hb' hx hlt rfl
          | false =>
            rw [if_neg (by rw [hla]; decide)] at hs
            obtain ⟨rfl, rfl, rfl⟩ := by simpa using hs
            subst hla
            exact chkStep_thr p x ring cells l hlen hr1 hr2 m hm fr rs false s th h0 hw hvI hb' hx hlt rfl
end Go.Proofs.Ytojkeahffabifaa
