/- Layer 10: Step and Stamp of a machine. -/
import Derived.Test.YtojkeahffabifaaC10c
import Derived.StillTailTactics
namespace Go.Proofs.Ytojkeahffabifaa
open Go.RowKit
set_option linter.unusedVariables false
theorem comStamp_any (x xc : Nat) (n last fr : Int) (rs : Nat → Int) (mu : Bool) (st seen stamp : Int) : Looks Try.prog 14 #[.pointer (some ⟨x, 0, none⟩)] (ComH x xc n last fr rs mu st seen stamp) (.returned (.tuple #[.int .i64 (if st = 3 then stamp else 0), .bool (st == 3)])) := by
  rintro w F ⟨hb, hF⟩
  have hR := com_cells hb
  have c18 := hR.c18
  have c19 := hR.c19
  have fz := hR.fz
  clear hb hF hR
  by_cases h3 : st = 3
  · subst h3
    go_enter Try.func14, Try.ntmps14
    go_wp2_with fail
    refine bodyPost_ret (v := _) (by simp [results, Try.results14, go_sem]; rfl) rfl ?_
    exact ⟨rfl, Below.refl _ _⟩
  · have e3 : (st == 3) = false := by simp [h3]
    have e4 : (st != 3) = true := by simp [h3]
    rw [e3, if_neg h3]
    clear h3
    go_enter Try.func14, Try.ntmps14
    go_wp2_with fail
    refine bodyPost_ret (v := _) (by simp [results, Try.results14, go_sem]; rfl) rfl ?_
    exact ⟨rfl, Below.refl _ _⟩
theorem lift_mid {P : Program} {f : FuncId} {args : Array Value} {M M' C D D' : HP} {v : Ending} (gC : Good C) (h : Lifts P f args (Star M D) (Star M' D') v) : Lifts P f args (Star (Star M C) D) (Star (Star M' C) D') v := by
  intro w F hO
  refine ((h.left gC) w F hO.swap).mono ?_
  rintro e w' ⟨rfl, hs⟩
  exact ⟨rfl, hs.imp fun _ h => h.swap⟩
set_option maxHeartbeats 2000000 in
theorem comStep_none (p x xc ring cells : Nat) (l : List Acc) (last fr : Int) (rs : Nat → Int) (mu : Bool) (st seen stamp : Int) (s : CS) (th : Int) (h3 : 3 ≤ st) : Lifts Try.prog 12 #[.pointer (some ⟨x, 0, none⟩), .pointer (some ⟨p, 0, none⟩), .int .i64 th] (KStep p x xc ring cells l last fr rs mu st seen stamp s) (KStep p x xc ring cells l last fr rs mu st seen stamp s) (.returned (ansV 0 0 0 false)) := by
  rintro w F hO
  have hxl : x < w.heap.size := heap_lt (Stp.refl hO).has.right.blk
  have hne : x ≠ w.heap.size := by omega
  have hne2 : w.heap.size ≠ x := by omega
  have GA := Lib.hid (fun cs => BlkH.good w.heap.size cs 51)
  have GK := Lib.hid (KStep.good p x xc ring cells l last fr rs mu st seen stamp s)
  have H0 := Lib.hid ((Stp.refl hO).box GK.out #[.int .i64 0, .int .i64 0, .int .i64 0, .bool false] 51)
  have HSZ := Lib.hid (Stp.look (GK.out.star (GA.out _)) (Looks.left (B := BlkH w.heap.size #[.int .i64 0, .int .i64 0, .int .i64 0, .bool false] 51) (Looks.left (B := ComH x xc ring last fr rs mu st seen stamp) (Looks.left (B := ChkH xc ring fr rs false s) (sizes_any p ring cells l)))) H0.out)
  clear hO
  go_enter Try.func12, Try.ntmps12
  go_wp2_with fail
  refine HSZ.out.mono ?_; rintro e w2 ⟨rfl, h⟩
  have H2 := Lib.hid h
  have hR := com_cells h.has.left.right.blk
  obtain ⟨r0, r1, r2, r3, rz⟩ := four_cells h.has.right.blk
  have c1 := hR.c1
  have c8 := hR.c8
  have c18 := hR.c18
  have c20 := hR.c20
  have fz := hR.fz
  clear h hR HSZ
  have d3 : decide (3 ≤ st) = true := by simpa using h3
  clear c20
  go_wp2_with fail
  refine bodyPost_ret (v := _) (by simp [results, Try.results12, go_sem, r0, r1, r2, r3]; rfl) rfl ?_
  exact ⟨rfl, ans_set GK.out H2.out _ _ _ _⟩
set_option maxHeartbeats 2000000 in
theorem comStep_checks (p x xc ring cells : Nat) (l : List Acc) (last fr : Int) (rs : Nat → Int) (mu : Bool) (st seen stamp : Int) (s : CS) (th : Int) (h0 : st = 0) (Ox : HP) (gO : Good Ox) (kd er : Int) (b : Bool) (hL : Lifts Try.prog 37 #[.pointer (some ⟨x, 0, none⟩), .pointer (some ⟨p, 0, none⟩), .int .i64 th] (KStep p x xc ring cells l last fr rs mu st seen stamp s) Ox (.returned (ansV kd er 0 b))) : Lifts Try.prog 12 #[.pointer (some ⟨x, 0, none⟩), .pointer (some ⟨p, 0, none⟩), .int .i64 th] (KStep p x xc ring cells l last fr rs mu st seen stamp s) Ox (.returned (ansV kd er 0 b)) := by
  rintro w F hO
  have hxl : x < w.heap.size := heap_lt (Stp.refl hO).has.right.blk
  have hne : x ≠ w.heap.size := by omega
  have hne2 : w.heap.size ≠ x := by omega
  have GA := Lib.hid (fun cs => BlkH.good w.heap.size cs 51)
  have GK := Lib.hid (KStep.good p x xc ring cells l last fr rs mu st seen stamp s)
  have H0 := Lib.hid ((Stp.refl hO).box GK.out #[.int .i64 0, .int .i64 0, .int .i64 0, .bool false] 51)
  have HSZ := Lib.hid (Stp.look (GK.out.star (GA.out _)) (Looks.left (B := BlkH w.heap.size #[.int .i64 0, .int .i64 0, .int .i64 0, .bool false] 51) (Looks.left (B := ComH x xc ring last fr rs mu st seen stamp) (Looks.left (B := ChkH xc ring fr rs false s) (sizes_any p ring cells l)))) H0.out)
  clear hO
  have HL := Lib.hid hL
  clear hL
  go_enter Try.func12, Try.ntmps12
  go_wp2_with fail
  refine HSZ.out.mono ?_; rintro e w2 ⟨rfl, h⟩
  have H2 := Lib.hid h
  have hR := com_cells h.has.left.right.blk
  obtain ⟨r0, r1, r2, r3, rz⟩ := four_cells h.has.right.blk
  have c1 := hR.c1
  have c8 := hR.c8
  have c18 := hR.c18
  have c20 := hR.c20
  have fz := hR.fz
  clear h hR HSZ
  rw [h0] at c18
  have HC := Lib.hid (Stp.lift (Lifts.left (GA.out _) HL.out) H2.out)
  clear c8 c20 r0 r1 r2 r3 rz
  go_wp2_with fail
  refine HC.out.mono ?_; rintro e w3 ⟨rfl, h⟩
  have H3 := Lib.hid h
  obtain ⟨r0, r1, r2, r3, rz⟩ := four_cells h.has.right.blk
  clear h HC
  unfold ansV
  go_wp2_with fail
  refine bodyPost_ret (v := _) (by simp [results, Try.results12, go_sem, r0, r1, r2, r3]; rfl) rfl ?_
  exact ⟨rfl, ans_set gO H3.out _ _ _ _⟩
set_option maxHeartbeats 2000000 in
theorem comStep_all_wait (p x xc ring cells : Nat) (l : List Acc) (last fr : Int) (rs : Nat → Int) (st seen stamp : Int) (s : CS) (th : Int) (hlen : l.length ≤ 3000000000000) (hr1 : 1 ≤ ring) (hr2 : ring ≤ 16) (hs0 : 0 ≤ seen) (hs1 : seen ≤ 1099511627776) (h0 : st = 1) (hb : lookB ring false seen (wordOf l 2 (slotZ (lookZ false seen) ring) 0) = false) : Lifts Try.prog 12 #[.pointer (some ⟨x, 0, none⟩), .pointer (some ⟨p, 0, none⟩), .int .i64 th] (KStep p x xc ring cells l last fr rs false st seen stamp s) (KStep p x xc ring cells (l ++ [ldAcc th 2 (slotZ (lookZ false seen) ring) 0 (wordOf l 2 (slotZ (lookZ false seen) ring) 0)]) last fr rs false st seen stamp s) (.returned (ansV 1 0 0 true)) := by
  rintro w F hO
  have hxl : x < w.heap.size := heap_lt (Stp.refl hO).has.right.blk
  have hne : x ≠ w.heap.size := by omega
  have hne2 : w.heap.size ≠ x := by omega
  have GA := Lib.hid (fun cs => BlkH.good w.heap.size cs 51)
  have GK := Lib.hid (KStep.good p x xc ring cells l last fr rs false st seen stamp s)
  have H0 := Lib.hid ((Stp.refl hO).box GK.out #[.int .i64 0, .int .i64 0, .int .i64 0, .bool false] 51)
  have HSZ := Lib.hid (Stp.look (GK.out.star (GA.out _)) (Looks.left (B := BlkH w.heap.size #[.int .i64 0, .int .i64 0, .int .i64 0, .bool false] 51) (Looks.left (B := ComH x xc ring last fr rs false st seen stamp) (Looks.left (B := ChkH xc ring fr rs false s) (sizes_any p ring cells l)))) H0.out)
  clear hO
  go_enter Try.func12, Try.ntmps12
  go_wp2_with fail
  refine HSZ.out.mono ?_; rintro e w2 ⟨rfl, h⟩
  have H2 := Lib.hid h
  have hR := com_cells h.has.left.right.blk
  obtain ⟨r0, r1, r2, r3, rz⟩ := four_cells h.has.right.blk
  have c1 := hR.c1
  have c8 := hR.c8
  have c18 := hR.c18
  have c20 := hR.c20
  have fz := hR.fz
  clear h hR HSZ
  have hk : Lifts Try.prog 33 #[.pointer (some ⟨x, 0, none⟩), .pointer (some ⟨p, 0, none⟩), .int .i64 th] (Star (MemH p ring cells l) (ComH x xc ring last fr rs false st seen stamp)) (Star (MemH p ring cells (l ++ [ldAcc th 2 (slotZ (lookZ false seen) ring) 0 (wordOf l 2 (slotZ (lookZ false seen) ring) 0)])) (ComH x xc ring last fr rs false st seen stamp)) (.returned (.bool (lookB ring false seen (wordOf l 2 (slotZ (lookZ false seen) ring) 0)))) := comLooks_any p x xc ring cells l hlen hr1 hr2 last fr rs false st seen stamp th hs0 hs1
  rw [hb] at hk
  have HC := Lib.hid (Stp.lift (Lifts.left (GA.out _) (lift_mid (BlkH.good _ _ _) hk)) H2.out)
  rw [h0] at c18
  unfold looksV at c20
  have HST := Lib.hid h0
  clear hk hb c8 r0 r1 r2 r3 rz
  go_wp2_with fail
  refine HC.out.mono ?_; rintro e w3 ⟨rfl, h⟩
  have H3 := Lib.hid h
  obtain ⟨r0, r1, r2, r3, rz⟩ := four_cells h.has.right.blk
  have hR3 := com_cells h.has.left.right.blk
  have k18 := hR3.c18
  rw [h0] at k18
  have kz := hR3.fz
  clear h HC hR3 c1 c18 c20 fz
  go_wp2_with fail
  refine bodyPost_ret (v := _) (by simp [results, Try.results12, go_sem, r0, r1, r2, r3]; rfl) rfl ?_
  exact ⟨rfl, ans_set (KStep.good _ _ _ _ _ _ _ _ _ _ _ _ _ _) H3.out _ _ _ _⟩
set_option maxHeartbeats 2000000 in
theorem comStep_all_go (p x xc ring cells : Nat) (l : List Acc) (last fr : Int) (rs : Nat → Int) (st seen stamp : Int) (s : CS) (th : Int) (hlen : l.length ≤ 3000000000000) (hr1 : 1 ≤ ring) (hr2 : ring ≤ 16) (hs0 : 0 ≤ seen) (hs1 : seen ≤ 1099511627776) (h0 : st = 1) (hb : lookB ring false seen (wordOf l 2 (slotZ (lookZ false seen) ring) 0) = true) : Lifts Try.prog 12 #[.pointer (some ⟨x, 0, none⟩), .pointer (some ⟨p, 0, none⟩), .int .i64 th] (KStep p x xc ring cells l last fr rs false st seen stamp s) (KStep p x xc ring cells (l ++ [ldAcc th 2 (slotZ (lookZ false seen) ring) 0 (wordOf l 2 (slotZ (lookZ false seen) ring) 0)]) last fr rs false 2 seen stamp s) (.returned (ansV 2 0 0 true)) := by
  rintro w F hO
  have hxl : x < w.heap.size := heap_lt (Stp.refl hO).has.right.blk
  have hne : x ≠ w.heap.size := by omega
  have hne2 : w.heap.size ≠ x := by omega
  have GA := Lib.hid (fun cs => BlkH.good w.heap.size cs 51)
  have GK := Lib.hid (KStep.good p x xc ring cells l last fr rs false st seen stamp s)
  have H0 := Lib.hid ((Stp.refl hO).box GK.out #[.int .i64 0, .int .i64 0, .int .i64 0, .bool false] 51)
  have HSZ := Lib.hid (Stp.look (GK.out.star (GA.out _)) (Looks.left (B := BlkH w.heap.size #[.int .i64 0, .int .i64 0, .int .i64 0, .bool false] 51) (Looks.left (B := ComH x xc ring last fr rs false st seen stamp) (Looks.left (B := ChkH xc ring fr rs false s) (sizes_any p ring cells l)))) H0.out)
  clear hO
  go_enter Try.func12, Try.ntmps12
  go_wp2_with fail
  refine HSZ.out.mono ?_; rintro e w2 ⟨rfl, h⟩
  have H2 := Lib.hid h
  have hR := com_cells h.has.left.right.blk
  obtain ⟨r0, r1, r2, r3, rz⟩ := four_cells h.has.right.blk
  have c1 := hR.c1
  have c8 := hR.c8
  have c18 := hR.c18
  have c20 := hR.c20
  have fz := hR.fz
  clear h hR HSZ
  have hk : Lifts Try.prog 33 #[.pointer (some ⟨x, 0, none⟩), .pointer (some ⟨p, 0, none⟩), .int .i64 th] (Star (MemH p ring cells l) (ComH x xc ring last fr rs false st seen stamp)) (Star (MemH p ring cells (l ++ [ldAcc th 2 (slotZ (lookZ false seen) ring) 0 (wordOf l 2 (slotZ (lookZ false seen) ring) 0)])) (ComH x xc ring last fr rs false st seen stamp)) (.returned (.bool (lookB ring false seen (wordOf l 2 (slotZ (lookZ false seen) ring) 0)))) := comLooks_any p x xc ring cells l hlen hr1 hr2 last fr rs false st seen stamp th hs0 hs1
  rw [hb] at hk
  have HC := Lib.hid (Stp.lift (Lifts.left (GA.out _) (lift_mid (BlkH.good _ _ _) hk)) H2.out)
  rw [h0] at c18
  unfold looksV at c20
  have HST := Lib.hid h0
  clear hk hb c8 r0 r1 r2 r3 rz
  go_wp2_with fail
  refine HC.out.mono ?_; rintro e w3 ⟨rfl, h⟩
  have H3 := Lib.hid h
  obtain ⟨r0, r1, r2, r3, rz⟩ := four_cells h.has.right.blk
  have hR3 := com_cells h.has.left.right.blk
  have k18 := hR3.c18
  rw [h0] at k18
  have kz := hR3.fz
  clear h HC hR3 c1 c18 c20 fz
  go_wp2_with fail
  refine (Stp.lift (Lifts.left (GA.out _) (Lifts.right (CStep.good _ _ _ _ _ _ _ _ _ _) (comMoved_any x xc ring last fr rs false st seen stamp 2))) H3.out).mono ?_; rintro e w4 ⟨rfl, h⟩
  have H4 := Lib.hid h
  clear r0 r1 r2 r3 rz
  obtain ⟨r0, r1, r2, r3, rz⟩ := four_cells h.has.right.blk
  clear h
  unfold ansV
  go_wp2_with fail
  refine bodyPost_ret (v := _) (by simp [results, Try.results12, go_sem, r0, r1, r2, r3]; rfl) rfl ?_
  exact ⟨rfl, ans_set (KStep.good _ _ _ _ _ _ _ _ _ _ _ _ _ _) H4.out _ _ _ _⟩
set_option maxHeartbeats 2000000 in
theorem comStep_slot_wait (p x xc ring cells : Nat) (l : List Acc) (last fr : Int) (rs : Nat → Int) (st seen stamp : Int) (s : CS) (th : Int) (hlen : l.length ≤ 3000000000000) (hr1 : 1 ≤ ring) (hr2 : ring ≤ 16) (hs0 : 0 ≤ seen) (hs1 : seen ≤ 1099511627776) (h0 : st = 1) (hb : lookB ring true seen (wordOf l 2 (slotZ (lookZ true seen) ring) 0) = false) : Lifts Try.prog 12 #[.pointer (some ⟨x, 0, none⟩), .pointer (some ⟨p, 0, none⟩), .int .i64 th] (KStep p x xc ring cells l last fr rs true st seen stamp s) (KStep p x xc ring cells (l ++ [ldAcc th 2 (slotZ (lookZ true seen) ring) 0 (wordOf l 2 (slotZ (lookZ true seen) ring) 0)]) last fr rs true st seen stamp s) (.returned (ansV 1 0 0 true)) := by
  rintro w F hO
  have hxl : x < w.heap.size := heap_lt (Stp.refl hO).has.right.blk
  have hne : x ≠ w.heap.size := by omega
  have hne2 : w.heap.size ≠ x := by omega
  have GA := Lib.hid (fun cs => BlkH.good w.heap.size cs 51)
  have GK := Lib.hid (KStep.good p x xc ring cells l last fr rs true st seen stamp s)
  have H0 := Lib.hid ((Stp.refl hO).box GK.out #[.int .i64 0, .int .i64 0, .int .i64 0, .bool false] 51)
  have HSZ := Lib.hid (Stp.look (GK.out.star (GA.out _)) (Looks.left (B := BlkH w.heap.size #[.int .i64 0, .int .i64 0, .int .i64 0, .bool false] 51) (Looks.left (B := ComH x xc ring last fr rs true st seen stamp) (Looks.left (B := ChkH xc ring fr rs false s) (sizes_any p ring cells l)))) H0.out)
  clear hO
  go_enter Try.func12, Try.ntmps12
  go_wp2_with fail
  refine HSZ.out.mono ?_; rintro e w2 ⟨rfl, h⟩
  have H2 := Lib.hid h
  have hR := com_cells h.has.left.right.blk
  obtain ⟨r0, r1, r2, r3, rz⟩ := four_cells h.has.right.blk
  have c1 := hR.c1
  have c8 := hR.c8
  have c18 := hR.c18
  have c20 := hR.c20
  have fz := hR.fz
  clear h hR HSZ
  have hk : Lifts Try.prog 35 #[.pointer (some ⟨x, 0, none⟩), .pointer (some ⟨p, 0, none⟩), .int .i64 th] (Star (MemH p ring cells l) (ComH x xc ring last fr rs true st seen stamp)) (Star (MemH p ring cells (l ++ [ldAcc th 2 (slotZ (lookZ true seen) ring) 0 (wordOf l 2 (slotZ (lookZ true seen) ring) 0)])) (ComH x xc ring last fr rs true st seen stamp)) (.returned (.bool (lookB ring true seen (wordOf l 2 (slotZ (lookZ true seen) ring) 0)))) := comLooks_any p x xc ring cells l hlen hr1 hr2 last fr rs true st seen stamp th hs0 hs1
  rw [hb] at hk
  have HC := Lib.hid (Stp.lift (Lifts.left (GA.out _) (lift_mid (BlkH.good _ _ _) hk)) H2.out)
  rw [h0] at c18
  unfold looksV at c20
  have HST := Lib.hid h0
  clear hk hb c8 r0 r1 r2 r3 rz
  go_wp2_with fail
  refine HC.out.mono ?_; rintro e w3 ⟨rfl, h⟩
  have H3 := Lib.hid h
  obtain ⟨r0, r1, r2, r3, rz⟩ := four_cells h.has.right.blk
  have hR3 := com_cells h.has.left.right.blk
  have k18 := hR3.c18
  rw [h0] at k18
  have kz := hR3.fz
  clear h HC hR3 c1 c18 c20 fz
  go_wp2_with fail
  refine bodyPost_ret (v := _) (by simp [results, Try.results12, go_sem, r0, r1, r2, r3]; rfl) rfl ?_
  exact ⟨rfl, ans_set (KStep.good _ _ _ _ _ _ _ _ _ _ _ _ _ _) H3.out _ _ _ _⟩
set_option maxHeartbeats 2000000 in
theorem comStep_slot_go (p x xc ring cells : Nat) (l : List Acc) (last fr : Int) (rs : Nat → Int) (st seen stamp : Int) (s : CS) (th : Int) (hlen : l.length ≤ 3000000000000) (hr1 : 1 ≤ ring) (hr2 : ring ≤ 16) (hs0 : 0 ≤ seen) (hs1 : seen ≤ 1099511627776) (h0 : st = 1) (hb : lookB ring true seen (wordOf l 2 (slotZ (lookZ true seen) ring) 0) = true) : Lifts Try.prog 12 #[.pointer (some ⟨x, 0, none⟩), .pointer (some ⟨p, 0, none⟩), .int .i64 th] (KStep p x xc ring cells l last fr rs true st seen stamp s) (KStep p x xc ring cells (l ++ [ldAcc th 2 (slotZ (lookZ true seen) ring) 0 (wordOf l 2 (slotZ (lookZ true seen) ring) 0)]) last fr rs true 2 seen stamp s) (.returned (ansV 2 0 0 true)) := by
  rintro w F hO
  have hxl : x < w.heap.size := heap_lt (Stp.refl hO).has.right.blk
  have hne : x ≠ w.heap.size := by omega
  have hne2 : w.heap.size ≠ x := by omega
  have GA := Lib.hid (fun cs => BlkH.good w.heap.size cs 51)
  have GK := Lib.hid (KStep.good p x xc ring cells l last fr rs true st seen stamp s)
  have H0 := Lib.hid ((Stp.refl hO).box GK.out #[.int .i64 0, .int .i64 0, .int .i64 0, .bool false] 51)
  have HSZ := Lib.hid (Stp.look (GK.out.star (GA.out _)) (Looks.left (B := BlkH w.heap.size #[.int .i64 0, .int .i64 0, .int .i64 0, .bool false] 51) (Looks.left (B := ComH x xc ring last fr rs true st seen stamp) (Looks.left (B := ChkH xc ring fr rs false s) (sizes_any p ring cells l)))) H0.out)
  clear hO
  go_enter Try.func12, Try.ntmps12
  go_wp2_with fail
  refine HSZ.out.mono ?_; rintro e w2 ⟨rfl, h⟩
  have H2 := Lib.hid h
  have hR := com_cells h.has.left.right.blk
  obtain ⟨r0, r1, r2, r3, rz⟩ := four_cells h.has.right.blk
  have c1 := hR.c1
  have c8 := hR.c8
  have c18 := hR.c18
  have c20 := hR.c20
  have fz := hR.fz
  clear h hR HSZ
  have hk : Lifts Try.prog 35 #[.pointer (some ⟨x, 0, none⟩), .pointer (some ⟨p, 0, none⟩), .int .i64 th] (Star (MemH p ring cells l) (ComH x xc ring last fr rs true st seen stamp)) (Star (MemH p ring cells (l ++ [ldAcc th 2 (slotZ (lookZ true seen) ring) 0 (wordOf l 2 (slotZ (lookZ true seen) ring) 0)])) (ComH x xc ring last fr rs true st seen stamp)) (.returned (.bool (lookB ring true seen (wordOf l 2 (slotZ (lookZ true seen) ring) 0)))) := comLooks_any p x xc ring cells l hlen hr1 hr2 last fr rs true st seen stamp th hs0 hs1
  rw [hb] at hk
  have HC := Lib.hid (Stp.lift (Lifts.left (GA.out _) (lift_mid (BlkH.good _ _ _) hk)) H2.out)
  rw [h0] at c18
  unfold looksV at c20
  have HST := Lib.hid h0
  clear hk hb c8 r0 r1 r2 r3 rz
  go_wp2_with fail
  refine HC.out.mono ?_; rintro e w3 ⟨rfl, h⟩
  have H3 := Lib.hid h
  obtain ⟨r0, r1, r2, r3, rz⟩ := four_cells h.has.right.blk
  have hR3 := com_cells h.has.left.right.blk
  have k18 := hR3.c18
  rw [h0] at k18
  have kz := hR3.fz
  clear h HC hR3 c1 c18 c20 fz
  go_wp2_with fail
  refine (Stp.lift (Lifts.left (GA.out _) (Lifts.right (CStep.good _ _ _ _ _ _ _ _ _ _) (comMoved_any x xc ring last fr rs true st seen stamp 2))) H3.out).mono ?_; rintro e w4 ⟨rfl, h⟩
  have H4 := Lib.hid h
  clear r0 r1 r2 r3 rz
  obtain ⟨r0, r1, r2, r3, rz⟩ := four_cells h.has.right.blk
  clear h
  unfold ansV
  go_wp2_with fail
  refine bodyPost_ret (v := _) (by simp [results, Try.results12, go_sem, r0, r1, r2, r3]; rfl) rfl ?_
  exact ⟨rfl, ans_set (KStep.good _ _ _ _ _ _ _ _ _ _ _ _ _ _) H4.out _ _ _ _⟩
end Go.Proofs.Ytojkeahffabifaa
