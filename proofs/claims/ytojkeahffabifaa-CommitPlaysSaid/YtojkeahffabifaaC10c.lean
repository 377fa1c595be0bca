/- Layer 10: the round of a machine: checks. -/
import Derived.Test.YtojkeahffabifaaC10b
namespace Go.Proofs.Ytojkeahffabifaa
open Go.RowKit
set_option linter.unusedVariables false
theorem comC_st (x xc : Nat) (n last fr : Int) (rs : Nat → Int) (mu : Bool) (st seen stamp t : Int) : (comC x xc n last fr rs mu st seen stamp).setIfInBounds 18 (.int .i64 t) = comC x xc n last fr rs mu t seen stamp := by simp [comC]
theorem comC_seen (x xc : Nat) (n last fr : Int) (rs : Nat → Int) (mu : Bool) (st seen stamp t : Int) : (comC x xc n last fr rs mu st seen stamp).setIfInBounds 8 (.int .i64 t) = comC x xc n last fr rs mu st t stamp := by simp [comC]
theorem comC_stamp (x xc : Nat) (n last fr : Int) (rs : Nat → Int) (mu : Bool) (st seen stamp t : Int) : (comC x xc n last fr rs mu st seen stamp).setIfInBounds 19 (.int .i64 t) = comC x xc n last fr rs mu st seen t := by simp [comC]
theorem comC_round (x xc xd : Nat) (n last fr : Int) (rs : Nat → Int) (mu : Bool) (st seen stamp : Int) : (comC x xc n last fr rs mu st seen stamp).setIfInBounds 17 (.pointer (some ⟨xd, 0, none⟩)) = comC x xd n last fr rs mu st seen stamp := by simp [comC]
abbrev KStep (p x xc ring cells : Nat) (l : List Acc) (last fr : Int) (rs : Nat → Int) (mu : Bool) (st seen stamp : Int) (s : CS) : HP := Star (CStep p xc ring cells l ring fr rs false s) (ComH x xc ring last fr rs mu st seen stamp)
theorem KStep.good (p x xc ring cells : Nat) (l : List Acc) (last fr : Int) (rs : Nat → Int) (mu : Bool) (st seen stamp : Int) (s : CS) : Good (KStep p x xc ring cells l last fr rs mu st seen stamp s) := (CStep.good _ _ _ _ _ _ _ _ _ _).star (BlkH.good _ _ _)
/-- An answer is laid into its box. -/
theorem ans_set {O : HP} (g : Good O) {w w2 : World} {F : Nat → Prop} {b : Nat} {cs : Array Value} {T : TypeId} (h : Stp w w2 F (Star O (BlkH b cs T))) (v0 v1 v2 v3 : Value) : Stp w ((((w2.setCell ⟨b, 0, none⟩ v0).setCell ⟨b, 1, none⟩ v1).setCell ⟨b, 2, none⟩ v2).setCell ⟨b, 3, none⟩ v3) F O :=
  ((((h.move (Moves.right g (BlkH.set 0 v0))).move (Moves.right g (BlkH.set 1 v1))).move (Moves.right g (BlkH.set 2 v2))).move (Moves.right g (BlkH.set 3 v3))).fst
theorem k_st {p x xc ring cells : Nat} {l : List Acc} {last fr : Int} {rs : Nat → Int} {mu : Bool} {st seen stamp : Int} {s : CS} {B : HP} (gb : Good B) {w w2 : World} {F : Nat → Prop} (h : Stp w w2 F (Star (KStep p x xc ring cells l last fr rs mu st seen stamp s) B)) (t : Int) : Stp w (w2.setCell ⟨x, 18, none⟩ (.int .i64 t)) F (Star (KStep p x xc ring cells l last fr rs mu t seen stamp s) B) := by
  have k := h.move (Moves.left gb (Moves.right (CStep.good p xc ring cells l ring fr rs false s) (BlkH.set 18 (.int .i64 t))))
  rw [comC_st] at k
  exact k
theorem k_seen {p x xc ring cells : Nat} {l : List Acc} {last fr : Int} {rs : Nat → Int} {mu : Bool} {st seen stamp : Int} {s : CS} {B : HP} (gb : Good B) {w w2 : World} {F : Nat → Prop} (h : Stp w w2 F (Star (KStep p x xc ring cells l last fr rs mu st seen stamp s) B)) (t : Int) : Stp w (w2.setCell ⟨x, 8, none⟩ (.int .i64 t)) F (Star (KStep p x xc ring cells l last fr rs mu st t stamp s) B) := by
  have k := h.move (Moves.left gb (Moves.right (CStep.good p xc ring cells l ring fr rs false s) (BlkH.set 8 (.int .i64 t))))
  rw [comC_seen] at k
  exact k
theorem k_stamp {p x xc ring cells : Nat} {l : List Acc} {last fr : Int} {rs : Nat → Int} {mu : Bool} {st seen stamp : Int} {s : CS} {B : HP} (gb : Good B) {w w2 : World} {F : Nat → Prop} (h : Stp w w2 F (Star (KStep p x xc ring cells l last fr rs mu st seen stamp s) B)) (t : Int) : Stp w (w2.setCell ⟨x, 19, none⟩ (.int .i64 t)) F (Star (KStep p x xc ring cells l last fr rs mu st seen t s) B) := by
  have k := h.move (Moves.left gb (Moves.right (CStep.good p xc ring cells l ring fr rs false s) (BlkH.set 19 (.int .i64 t))))
  rw [comC_stamp] at k
  exact k
set_option maxHeartbeats 2000000 in
/-- The check goes on, or waits. -/
theorem comChecks_on (p x xc ring cells : Nat) (l l' : List Acc) (last fr : Int) (rs : Nat → Int) (mu : Bool) (st seen stamp : Int) (s s' : CS) (th kd er : Int) (b : Bool) (hk3 : kd ≠ 3) (hk4 : kd ≠ 4)
    (hL : Lifts Try.prog 52 #[.pointer (some ⟨xc, 0, none⟩), .pointer (some ⟨p, 0, none⟩), .int .i64 th] (CStep p xc ring cells l ring fr rs false s) (CStep p xc ring cells l' ring fr rs false s') (.returned (ansV kd er 0 b))) :
    Lifts Try.prog 37 #[.pointer (some ⟨x, 0, none⟩), .pointer (some ⟨p, 0, none⟩), .int .i64 th] (KStep p x xc ring cells l last fr rs mu st seen stamp s) (KStep p x xc ring cells l' last fr rs mu st seen stamp s') (.returned (ansV kd er 0 b)) := by
  rintro w F hO
  have hxl : x < w.heap.size := heap_lt (Stp.refl hO).has.right.blk
  have hne : x ≠ w.heap.size := by omega
  have hne2 : w.heap.size ≠ x := by omega
  have GA := Lib.hid (fun cs => BlkH.good w.heap.size cs 51)
  have GK := Lib.hid (KStep.good p x xc ring cells l last fr rs mu st seen stamp s)
  have H0 := Lib.hid ((Stp.refl hO).box GK.out #[.int .i64 0, .int .i64 0, .int .i64 0, .bool false] 51)
  have hR := com_cells H0.out.has.left.right.blk
  have c17 := hR.c17
  have fz := hR.fz
  have HST := Lib.hid (Stp.lift (Lifts.left (GA.out _) (Lifts.left (ComH.good x xc ring last fr rs mu st seen stamp) hL)) H0.out)
  have e3 : (kd == 3) = false := by simp [hk3]
  have e4 : (kd == 4) = false := by simp [hk4]
  clear hO hR hL
  go_enter Try.func37, Try.ntmps37
  go_wp2_with fail
  refine HST.out.mono ?_; rintro e w2 ⟨rfl, h⟩
  have H2 := Lib.hid h
  have hwl : w.heap.size < w2.heap.size := by simpa using heap_lt h.has.right.blk
  have hxl2 : x < w2.heap.size := heap_lt h.has.left.right.blk
  obtain ⟨r0, r1, r2, r3, rz⟩ := four_cells h.has.right.blk
  clear h HST c17 fz
  unfold ansV
  go_wp2_with fail
  refine bodyPost_ret (v := _) (by simp [results, Try.results37, go_sem, r0, r1, r2, r3, hwl]; rfl) rfl ?_
  exact ⟨rfl, (ans_set (KStep.good _ _ _ _ _ _ _ _ _ _ _ _ _ _) H2.out _ _ _ _).below (KStep.good _ _ _ _ _ _ _ _ _ _ _ _ _ _) ((Below.refl _ _).alloc (Nat.le_refl _) _)⟩
set_option maxHeartbeats 2000000 in
/-- The check has failed. -/
theorem comChecks_fail (p x xc ring cells : Nat) (l l' : List Acc) (last fr : Int) (rs : Nat → Int) (mu : Bool) (st seen stamp : Int) (s s' : CS) (th er : Int) (b : Bool)
    (hL : Lifts Try.prog 52 #[.pointer (some ⟨xc, 0, none⟩), .pointer (some ⟨p, 0, none⟩), .int .i64 th] (CStep p xc ring cells l ring fr rs false s) (CStep p xc ring cells l' ring fr rs false s') (.returned (ansV 4 er 0 b))) :
    Lifts Try.prog 37 #[.pointer (some ⟨x, 0, none⟩), .pointer (some ⟨p, 0, none⟩), .int .i64 th] (KStep p x xc ring cells l last fr rs mu st seen stamp s) (KStep p x xc ring cells l' last fr rs mu 4 seen stamp s') (.returned (ansV 4 er 0 b)) := by
  rintro w F hO
  have hxl : x < w.heap.size := heap_lt (Stp.refl hO).has.right.blk
  have hne : x ≠ w.heap.size := by omega
  have hne2 : w.heap.size ≠ x := by omega
  have GA := Lib.hid (fun cs => BlkH.good w.heap.size cs 51)
  have GK := Lib.hid (KStep.good p x xc ring cells l last fr rs mu st seen stamp s)
  have H0 := Lib.hid ((Stp.refl hO).box GK.out #[.int .i64 0, .int .i64 0, .int .i64 0, .bool false] 51)
  have hR := com_cells H0.out.has.left.right.blk
  have c17 := hR.c17
  have fz := hR.fz
  have HST := Lib.hid (Stp.lift (Lifts.left (GA.out _) (Lifts.left (ComH.good x xc ring last fr rs mu st seen stamp) hL)) H0.out)
  clear hO hR hL
  go_enter Try.func37, Try.ntmps37
  go_wp2_with fail
  refine HST.out.mono ?_; rintro e w2 ⟨rfl, h⟩
  have H2 := Lib.hid h
  have hwl : w.heap.size < w2.heap.size := by simpa using heap_lt h.has.right.blk
  have hxl2 : x < w2.heap.size := heap_lt h.has.left.right.blk
  obtain ⟨r0, r1, r2, r3, rz⟩ := four_cells h.has.right.blk
  have hR2 := com_cells h.has.left.right.blk
  have k18 := hR2.c18
  have kz := hR2.fz
  have HS := Lib.hid (k_st (GA.out _) h 4)
  clear h HST c17 fz hR2
  unfold ansV
  go_wp2_with fail
  refine bodyPost_ret (v := _) (by simp [results, Try.results37, go_sem, r0, r1, r2, r3, hwl]; rfl) rfl ?_
  exact ⟨rfl, (ans_set (KStep.good _ _ _ _ _ _ _ _ _ _ _ _ _ _) HS.out _ _ _ _).below (KStep.good _ _ _ _ _ _ _ _ _ _ _ _ _ _) ((Below.refl _ _).alloc (Nat.le_refl _) _)⟩
set_option maxHeartbeats 3000000 in
theorem comChecks_spent (p x xc ring cells : Nat) (l l' : List Acc) (last fr : Int) (rs : Nat → Int) (mu : Bool) (st seen stamp : Int) (s s' : CS) (th er : Int) (b : Bool) (h4 : s'.st = 4) (hse : I64 s'.seen) (hsp : s'.seen < 0 ∨ last ≤ s'.seen)
    (hL : Lifts Try.prog 52 #[.pointer (some ⟨xc, 0, none⟩), .pointer (some ⟨p, 0, none⟩), .int .i64 th] (CStep p xc ring cells l ring fr rs false s) (CStep p xc ring cells l' ring fr rs false s') (.returned (ansV 3 er 0 b))) :
    Lifts Try.prog 37 #[.pointer (some ⟨x, 0, none⟩), .pointer (some ⟨p, 0, none⟩), .int .i64 th] (KStep p x xc ring cells l last fr rs mu st seen stamp s) (KStep p x xc ring cells l' last fr rs mu 4 s'.seen stamp s') (.returned (ansV 4 6 0 true)) := by
  rintro w F hO
  have hxl : x < w.heap.size := heap_lt (Stp.refl hO).has.right.blk
  have hne : x ≠ w.heap.size := by omega
  have hne2 : w.heap.size ≠ x := by omega
  have GA := Lib.hid (fun cs => BlkH.good w.heap.size cs 51)
  have GK := Lib.hid (KStep.good p x xc ring cells l last fr rs mu st seen stamp s)
  have H0 := Lib.hid ((Stp.refl hO).box GK.out #[.int .i64 0, .int .i64 0, .int .i64 0, .bool false] 51)
  have hR := com_cells H0.out.has.left.right.blk
  have c17 := hR.c17
  have fz := hR.fz
  have HST := Lib.hid (Stp.lift (Lifts.left (GA.out _) (Lifts.left (ComH.good x xc ring last fr rs mu st seen stamp) hL)) H0.out)
  clear hO hR hL
  go_enter Try.func37, Try.ntmps37
  go_wp2_with fail
  refine HST.out.mono ?_; rintro e w2 ⟨rfl, h⟩
  have H2 := Lib.hid h
  have hwl : w.heap.size < w2.heap.size := by simpa using heap_lt h.has.right.blk
  have hxl2 : x < w2.heap.size := heap_lt h.has.left.right.blk
  have hR2 := com_cells h.has.left.right.blk
  have k17 := hR2.c17
  have k8 := hR2.c8
  have kz := hR2.fz
  have GM := Lib.hid ((KStep.good p x xc ring cells l' last fr rs mu st seen stamp s').star (GA.out #[.int .i64 0, .int .i64 0, .int .i64 0, .bool false]))
  have HB := Lib.hid (h.box GM.out #[.int .i64 3, .int .i64 er, .int .i64 0, .bool b] 51)
  have HSTA := Lib.hid (Stp.look (GM.out.star (BlkH.good _ _ _)) (Looks.left (B := BlkH w2.heap.size #[.int .i64 3, .int .i64 er, .int .i64 0, .bool b] 51) (Looks.left (B := BlkH w.heap.size #[.int .i64 0, .int .i64 0, .int .i64 0, .bool false] 51) (Looks.left (B := ComH x xc ring last fr rs mu st seen stamp) (Looks.right (A := MemH p ring cells l') (chkStart_yes xc ring fr rs false s' h4))))) HB.out)
  clear h HST c17 fz hR2
  unfold ansV
  go_wp2_with fail
  refine HSTA.out.mono ?_; rintro e w3 ⟨rfl, h⟩
  have H3 : Hid (Stp w (w3.setCell ⟨x, 8, none⟩ (.int .i64 s'.seen)) F (Star (KStep p x xc ring cells l' last fr rs mu st s'.seen stamp s') (BlkH w.heap.size #[.int .i64 0, .int .i64 0, .int .i64 0, .bool false] 51))) := k_seen (GA.out _) h.fst s'.seen
  have hR3 := com_cells h.has.left.left.right.blk
  have j8 := hR3.c8
  have jz := hR3.fz
  clear h HSTA k17 k8 kz hR3 HB
  go_wp2_with fail
  clear j8 jz
  generalize w3.setCell ⟨x, 8, none⟩ (.int .i64 s'.seen) = w4 at *
  have hR4 := com_cells H3.out.has.left.right.blk
  have q3 := hR4.c3
  have q8 := hR4.c8
  have qz := hR4.fz
  clear hR4
  have HS := Lib.hid hsp
  by_cases hs0 : s'.seen < 0
  · have d0 : decide (s'.seen < 0) = true := by simpa using hs0
    go_quiet (fail)
    have H5 := Lib.hid (H3.out.below ((KStep.good _ _ _ _ _ _ _ _ _ _ _ _ _ _).star (GA.out _)) (below_drewN (Below.refl w4.heap.size w4) nq))
    clear q3 q8 qz H3
    generalize w4.drewN nq = w5 at *
    have hR5 := com_cells H5.out.has.left.right.blk
    have q18 := hR5.c18
    have q21 := hR5.c21
    have qz := hR5.fz
    obtain ⟨r0, r1, r2, r3, rz⟩ := four_cells H5.out.has.right.blk
    clear hR5
    have HK := Lib.hid (k_st (GA.out _) H5.out 4)
    go_wp2_with fail
    refine bodyPost_ret (v := _) (by simp [results, Try.results37, go_sem, r0, r1, r2, r3]; rfl) rfl ?_
    exact ⟨rfl, ans_set (KStep.good _ _ _ _ _ _ _ _ _ _ _ _ _ _) HK.out _ _ _ _⟩
  · have d0 : decide (s'.seen < 0) = false := by simpa using hs0
    have d1 : decide (last ≤ s'.seen) = true := by simp; omega
    go_quiet (fail)
    have H5 := Lib.hid (H3.out.below ((KStep.good _ _ _ _ _ _ _ _ _ _ _ _ _ _).star (GA.out _)) (below_drewN (Below.refl w4.heap.size w4) nq))
    clear q3 q8 qz H3
    generalize w4.drewN nq = w5 at *
    have hR5 := com_cells H5.out.has.left.right.blk
    have q18 := hR5.c18
    have q21 := hR5.c21
    have qz := hR5.fz
    obtain ⟨r0, r1, r2, r3, rz⟩ := four_cells H5.out.has.right.blk
    clear hR5
    have HK := Lib.hid (k_st (GA.out _) H5.out 4)
    go_wp2_with fail
    refine bodyPost_ret (v := _) (by simp [results, Try.results37, go_sem, r0, r1, r2, r3]; rfl) rfl ?_
    exact ⟨rfl, ans_set (KStep.good _ _ _ _ _ _ _ _ _ _ _ _ _ _) HK.out _ _ _ _⟩
set_option maxHeartbeats 3000000 in
theorem comChecks_go (p x xc ring cells : Nat) (l l' : List Acc) (last fr : Int) (rs : Nat → Int) (mu : Bool) (st seen stamp : Int) (s s' : CS) (th er : Int) (b : Bool) (h4 : s'.st = 4) (hse : I64 s'.seen) (hsp : ¬ (s'.seen < 0 ∨ last ≤ s'.seen)) (t : Int) (ht : t = if needB mu s'.seen = true then 1 else 2)
    (hL : Lifts Try.prog 52 #[.pointer (some ⟨xc, 0, none⟩), .pointer (some ⟨p, 0, none⟩), .int .i64 th] (CStep p xc ring cells l ring fr rs false s) (CStep p xc ring cells l' ring fr rs false s') (.returned (ansV 3 er 0 b))) :
    Lifts Try.prog 37 #[.pointer (some ⟨x, 0, none⟩), .pointer (some ⟨p, 0, none⟩), .int .i64 th] (KStep p x xc ring cells l last fr rs mu st seen stamp s) (KStep p x xc ring cells l' last fr rs mu t s'.seen stamp s') (.returned (ansV 2 0 0 true)) := by
  rintro w F hO
  have hxl : x < w.heap.size := heap_lt (Stp.refl hO).has.right.blk
  have hne : x ≠ w.heap.size := by omega
  have hne2 : w.heap.size ≠ x := by omega
  have GA := Lib.hid (fun cs => BlkH.good w.heap.size cs 51)
  have GK := Lib.hid (KStep.good p x xc ring cells l last fr rs mu st seen stamp s)
  have H0 := Lib.hid ((Stp.refl hO).box GK.out #[.int .i64 0, .int .i64 0, .int .i64 0, .bool false] 51)
  have hR := com_cells H0.out.has.left.right.blk
  have c17 := hR.c17
  have fz := hR.fz
  have HST := Lib.hid (Stp.lift (Lifts.left (GA.out _) (Lifts.left (ComH.good x xc ring last fr rs mu st seen stamp) hL)) H0.out)
  have HT0 := Lib.hid ht
  clear ht
  clear hO hR hL
  go_enter Try.func37, Try.ntmps37
  go_wp2_with fail
  refine HST.out.mono ?_; rintro e w2 ⟨rfl, h⟩
  have H2 := Lib.hid h
  have hwl : w.heap.size < w2.heap.size := by simpa using heap_lt h.has.right.blk
  have hxl2 : x < w2.heap.size := heap_lt h.has.left.right.blk
  have hR2 := com_cells h.has.left.right.blk
  have k17 := hR2.c17
  have k8 := hR2.c8
  have kz := hR2.fz
  have GM := Lib.hid ((KStep.good p x xc ring cells l' last fr rs mu st seen stamp s').star (GA.out #[.int .i64 0, .int .i64 0, .int .i64 0, .bool false]))
  have HB := Lib.hid (h.box GM.out #[.int .i64 3, .int .i64 er, .int .i64 0, .bool b] 51)
  have HSTA := Lib.hid (Stp.look (GM.out.star (BlkH.good _ _ _)) (Looks.left (B := BlkH w2.heap.size #[.int .i64 3, .int .i64 er, .int .i64 0, .bool b] 51) (Looks.left (B := BlkH w.heap.size #[.int .i64 0, .int .i64 0, .int .i64 0, .bool false] 51) (Looks.left (B := ComH x xc ring last fr rs mu st seen stamp) (Looks.right (A := MemH p ring cells l') (chkStart_yes xc ring fr rs false s' h4))))) HB.out)
  clear h HST c17 fz hR2
  unfold ansV
  go_wp2_with fail
  refine HSTA.out.mono ?_; rintro e w3 ⟨rfl, h⟩
  have H3 : Hid (Stp w (w3.setCell ⟨x, 8, none⟩ (.int .i64 s'.seen)) F (Star (KStep p x xc ring cells l' last fr rs mu st s'.seen stamp s') (BlkH w.heap.size #[.int .i64 0, .int .i64 0, .int .i64 0, .bool false] 51))) := k_seen (GA.out _) h.fst s'.seen
  have hR3 := com_cells h.has.left.left.right.blk
  have j8 := hR3.c8
  have jz := hR3.fz
  clear h HSTA k17 k8 kz hR3 HB
  go_wp2_with fail
  clear j8 jz
  generalize w3.setCell ⟨x, 8, none⟩ (.int .i64 s'.seen) = w4 at *
  have hR4 := com_cells H3.out.has.left.right.blk
  have q3 := hR4.c3
  have q8 := hR4.c8
  have qz := hR4.fz
  clear hR4
  have d0 : decide (s'.seen < 0) = false := by simp; omega
  have d1 : decide (last ≤ s'.seen) = false := by simp; omega
  obtain ⟨nb, hnb⟩ : ∃ nb, needB mu s'.seen = nb := ⟨_, rfl⟩
  have HNB := Lib.hid hnb
  have HT := Lib.hid HT0.out
  clear hnb hsp
  cases mu
  · go_quiet (fail)
    have H5 := Lib.hid (H3.out.below ((KStep.good _ _ _ _ _ _ _ _ _ _ _ _ _ _).star (GA.out _)) (below_drewN (Below.refl w4.heap.size w4) nq))
    clear q3 q8 qz H3
    generalize w4.drewN nq = w5 at *
    have hR5 := com_cells H5.out.has.left.right.blk
    have q18 := hR5.c18
    have q21 := hR5.c21
    have qz := hR5.fz
    obtain ⟨r0, r1, r2, r3, rz⟩ := four_cells H5.out.has.right.blk
    clear hR5
    have HN : Hid (Looks Try.prog 34 #[.pointer (some ⟨x, 0, none⟩)] (ComH x xc ring last fr rs false st s'.seen stamp) (.returned (.bool nb))) := by
      have k := comAlways_any x xc ring last fr rs st s'.seen stamp false
      rw [HNB.out] at k
      exact k
    unfold needsV at q21
    go_wp2_with fail
    refine (Stp.look ((KStep.good _ _ _ _ _ _ _ _ _ _ _ _ _ _).star (GA.out _)) (Looks.left (B := BlkH w.heap.size #[.int .i64 0, .int .i64 0, .int .i64 0, .bool false] 51) (Looks.right (A := CStep p xc ring cells l' ring fr rs false s') HN.out)) H5.out).mono ?_; rintro e w6 ⟨rfl, h⟩
    have H6 := Lib.hid h
    clear h q18 q21 qz r0 r1 r2 r3 rz H5
    cases nb
    · go_wp2_with fail
      refine (Stp.lift (Lifts.left (GA.out _) (Lifts.right (CStep.good p xc ring cells l' ring fr rs false s') (comMoved_any x xc ring last fr rs false st s'.seen stamp 2))) H6.out).mono ?_; rintro e w7 ⟨rfl, h⟩
      have H7 := Lib.hid h
      obtain ⟨r0, r1, r2, r3, rz⟩ := four_cells h.has.right.blk
      clear h
      unfold ansV
      go_wp2_with fail
      refine bodyPost_ret (v := _) (by simp [results, Try.results37, go_sem, r0, r1, r2, r3]; rfl) rfl ?_
      have hT : t = 2 := by have := HT.out; rw [HNB.out] at this; exact this
      exact ⟨rfl, by rw [hT]; exact ans_set (KStep.good _ _ _ _ _ _ _ _ _ _ _ _ _ _) H7.out _ _ _ _⟩
    · go_wp2_with fail
      refine (Stp.lift (Lifts.left (GA.out _) (Lifts.right (CStep.good p xc ring cells l' ring fr rs false s') (comMoved_any x xc ring last fr rs false st s'.seen stamp 1))) H6.out).mono ?_; rintro e w7 ⟨rfl, h⟩
      have H7 := Lib.hid h
      obtain ⟨r0, r1, r2, r3, rz⟩ := four_cells h.has.right.blk
      clear h
      unfold ansV
      go_wp2_with fail
      refine bodyPost_ret (v := _) (by simp [results, Try.results37, go_sem, r0, r1, r2, r3]; rfl) rfl ?_
      have hT : t = 1 := by have := HT.out; rw [HNB.out] at this; exact this
      exact ⟨rfl, by rw [hT]; exact ans_set (KStep.good _ _ _ _ _ _ _ _ _ _ _ _ _ _) H7.out _ _ _ _⟩
  · go_quiet (fail)
    have H5 := Lib.hid (H3.out.below ((KStep.good _ _ _ _ _ _ _ _ _ _ _ _ _ _).star (GA.out _)) (below_drewN (Below.refl w4.heap.size w4) nq))
    clear q3 q8 qz H3
    generalize w4.drewN nq = w5 at *
    have hR5 := com_cells H5.out.has.left.right.blk
    have q18 := hR5.c18
    have q21 := hR5.c21
    have qz := hR5.fz
    obtain ⟨r0, r1, r2, r3, rz⟩ := four_cells H5.out.has.right.blk
    clear hR5
    have HN : Hid (Looks Try.prog 36 #[.pointer (some ⟨x, 0, none⟩)] (ComH x xc ring last fr rs true st s'.seen stamp) (.returned (.bool nb))) := by
      have k := comAlways_any x xc ring last fr rs st s'.seen stamp true
      rw [HNB.out] at k
      exact k
    unfold needsV at q21
    go_wp2_with fail
    refine (Stp.look ((KStep.good _ _ _ _ _ _ _ _ _ _ _ _ _ _).star (GA.out _)) (Looks.left (B := BlkH w.heap.size #[.int .i64 0, .int .i64 0, .int .i64 0, .bool false] 51) (Looks.right (A := CStep p xc ring cells l' ring fr rs false s') HN.out)) H5.out).mono ?_; rintro e w6 ⟨rfl, h⟩
    have H6 := Lib.hid h
    clear h q18 q21 qz r0 r1 r2 r3 rz H5
    cases nb
    · go_wp2_with fail
      refine (Stp.lift (Lifts.left (GA.out _) (Lifts.right (CStep.good p xc ring cells l' ring fr rs false s') (comMoved_any x xc ring last fr rs true st s'.seen stamp 2))) H6.out).mono ?_; rintro e w7 ⟨rfl, h⟩
      have H7 := Lib.hid h
      obtain ⟨r0, r1, r2, r3, rz⟩ := four_cells h.has.right.blk
      clear h
      unfold ansV
      go_wp2_with fail
      refine bodyPost_ret (v := _) (by simp [results, Try.results37, go_sem, r0, r1, r2, r3]; rfl) rfl ?_
      have hT : t = 2 := by have := HT.out; rw [HNB.out] at this; exact this
      exact ⟨rfl, by rw [hT]; exact ans_set (KStep.good _ _ _ _ _ _ _ _ _ _ _ _ _ _) H7.out _ _ _ _⟩
    · go_wp2_with fail
      refine (Stp.lift (Lifts.left (GA.out _) (Lifts.right (CStep.good p xc ring cells l' ring fr rs false s') (comMoved_any x xc ring last fr rs true st s'.seen stamp 1))) H6.out).mono ?_; rintro e w7 ⟨rfl, h⟩
      have H7 := Lib.hid h
      obtain ⟨r0, r1, r2, r3, rz⟩ := four_cells h.has.right.blk
      clear h
      unfold ansV
      go_wp2_with fail
      refine bodyPost_ret (v := _) (by simp [results, Try.results37, go_sem, r0, r1, r2, r3]; rfl) rfl ?_
      have hT : t = 1 := by have := HT.out; rw [HNB.out] at this; exact this
      exact ⟨rfl, by rw [hT]; exact ans_set (KStep.good _ _ _ _ _ _ _ _ _ _ _ _ _ _) H7.out _ _ _ _⟩
end Go.Proofs.Ytojkeahffabifaa
