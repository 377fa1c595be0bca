/- Layer 9: the program's machine as an object; New, Step, Start, Reads. -/
import Derived.Test.YtcbjbmbibnmohaaC8d
import Derived.Test.YtcbjbmbibnmohaaC2h
namespace Go.Proofs.Ytcbjbmbibnmohaa
open Go.RowKit
set_option linter.unusedVariables false
def fetC (xc : Nat) (size c : Int) (rs : Nat → Int) (rd : Bool) (val : Int) : Array Value := #[.pointer (some ⟨xc, 0, none⟩), .int .i64 size, .int .i64 c, .int .u64 (rs 0), .int .u64 (rs 1), .int .u64 (rs 2), .int .u64 (rs 3), .int .u64 (rs 4), .int .u64 (rs 5), .int .u64 (rs 6), .int .u64 (rs 7), .bool rd, .int .i64 val]
abbrev FetH (x xc : Nat) (size c : Int) (rs : Nat → Int) (rd : Bool) (val : Int) : HP := BlkH x (fetC xc size c rs rd val) 102
/-- What the walk reads of the machine. -/
structure FetR (w : World) (x xc : Nat) (size c : Int) (rs : Nat → Int) (rd : Bool) (val : Int) : Prop where
  c0 : w.cell? ⟨x, 0, none⟩ = some (.pointer (some ⟨xc, 0, none⟩))
  c1 : w.cell? ⟨x, 1, none⟩ = some (.int .i64 size)
  c2 : w.cell? ⟨x, 2, none⟩ = some (.int .i64 c)
  c3 : w.cell? ⟨x, 3, none⟩ = some (.int .u64 (rs 0))
  c4 : w.cell? ⟨x, 4, none⟩ = some (.int .u64 (rs 1))
  c5 : w.cell? ⟨x, 5, none⟩ = some (.int .u64 (rs 2))
  c6 : w.cell? ⟨x, 6, none⟩ = some (.int .u64 (rs 3))
  c7 : w.cell? ⟨x, 7, none⟩ = some (.int .u64 (rs 4))
  c8 : w.cell? ⟨x, 8, none⟩ = some (.int .u64 (rs 5))
  c9 : w.cell? ⟨x, 9, none⟩ = some (.int .u64 (rs 6))
  c10 : w.cell? ⟨x, 10, none⟩ = some (.int .u64 (rs 7))
  c11 : w.cell? ⟨x, 11, none⟩ = some (.bool rd)
  c12 : w.cell? ⟨x, 12, none⟩ = some (.int .i64 val)
  fz : ∀ o, w.frozen? ⟨x, o, none⟩ = false
theorem fet_cells {w : World} {x xc : Nat} {size c : Int} {rs : Nat → Int} {rd : Bool} {val : Int} {T : TypeId} (h : w.heap[x]? = some (.cells (fetC xc size c rs rd val) T)) : FetR w x xc size c rs rd val where
  c0 := by simp [World.cell?, h, fetC]
  c1 := by simp [World.cell?, h, fetC]
  c2 := by simp [World.cell?, h, fetC]
  c3 := by simp [World.cell?, h, fetC]
  c4 := by simp [World.cell?, h, fetC]
  c5 := by simp [World.cell?, h, fetC]
  c6 := by simp [World.cell?, h, fetC]
  c7 := by simp [World.cell?, h, fetC]
  c8 := by simp [World.cell?, h, fetC]
  c9 := by simp [World.cell?, h, fetC]
  c10 := by simp [World.cell?, h, fetC]
  c11 := by simp [World.cell?, h, fetC]
  c12 := by simp [World.cell?, h, fetC]
  fz := fun o => by simp [World.frozen?, h]
/-- The program's New has answered. -/
def FetNew (w : World) (n fr : Int) (rs : Nat → Int) (c : Int) (e : Ending) (w' : World) : Prop := ∃ x xc, e = .returned (.tuple #[.pointer (some ⟨x, 0, none⟩), .int .i64 0]) ∧ AtW w (Star (ChkH xc n fr (withS rs c) true ⟨0, fr, 0, 0, 0⟩) (FetH x xc n c (withS rs c) false 0)) w'
theorem fetNew_any (n fr : Int) (rs : Nat → Int) (hrs : Wds rs) (c : Int) (h1 : 1 ≤ n) (h2 : n ≤ 16) (h3 : 0 ≤ fr) (hc0 : 0 ≤ c) (hc1 : c < 1024) (w : World) : Calls Try.prog 11 #[.int .i64 n, .int .i64 fr, (.agg #[.int .u64 (rs 0), .int .u64 (rs 1), .int .u64 (rs 2), .int .u64 (rs 3), .int .u64 (rs 4), .int .u64 (rs 5), .int .u64 (rs 6), .int .u64 (rs 7)]), .int .i64 c] w (FetNew w n fr rs c) := by
  have HC := Lib.hid (chkNew_any n fr (withS rs c) true h1 h2 h3)
  have HW := Lib.hid (with_any rs hrs c)
  have HE : Hid (∀ e w', FetNew w n fr rs c e w' = ∃ x xc, e = .returned (.tuple #[.pointer (some ⟨x, 0, none⟩), .int .i64 0]) ∧ AtW w (Star (ChkH xc n fr (withS rs c) true ⟨0, fr, 0, 0, 0⟩) (FetH x xc n c (withS rs c) false 0)) w') := fun _ _ => rfl
  generalize withS rs c = all at *
  clear h1 h2 h3 hrs
  go_enter Try.func11, Try.ntmps11
  go_wp2_with fail
  refine (HW.out _).mono ?_; rintro e w1 ⟨rfl, hb⟩
  have B1 : Hid (Below w.heap.size w w1) := ((Below.refl _ _).alloc (Nat.le_refl _) _).trans (hb.mono (by simp))
  have B2 : Hid (Below w.heap.size w (w1.alloc (.cells #[.int .u64 (all 0), .int .u64 (all 1), .int .u64 (all 2), .int .u64 (all 3), .int .u64 (all 4), .int .u64 (all 5), .int .u64 (all 6), .int .u64 (all 7)] 45))) := B1.out.alloc B1.out.size _
  clear hb HW
  go_wp2_with fail
  refine (HC.out _).mono ?_; rintro e w2 ⟨xc, rfl, h⟩
  obtain ⟨d0, d1, d2, d3, d4, d5, d6, d7, dz⟩ := blk_facts ((h.below.block _ (by simp)).trans (heapAlloc w1 (.cells #[.int .u64 (all 0), .int .u64 (all 1), .int .u64 (all 2), .int .u64 (all 3), .int .u64 (all 4), .int .u64 (all 5), .int .u64 (all 6), .int .u64 (all 7)] 45)))
  have H2 := Lib.hid (h.up B2.out)
  clear h HC
  go_wp2_with fail
  go_ret2
  rw [HE.out]
  exact ⟨_, _, rfl, H2.out.box (BlkH.good _ _ _) (fetC xc n c all false 0) 102⟩
theorem fetNew_bad (n fr : Int) (rs : Nat → Int) (hrs : Wds rs) (c : Int) (h : ¬ (((1 ≤ n ∧ n ≤ 16) ∧ 0 ≤ fr) ∧ 0 ≤ c ∧ c < 1024)) (w : World) : Calls Try.prog 11 #[.int .i64 n, .int .i64 fr, (.agg #[.int .u64 (rs 0), .int .u64 (rs 1), .int .u64 (rs 2), .int .u64 (rs 3), .int .u64 (rs 4), .int .u64 (rs 5), .int .u64 (rs 6), .int .u64 (rs 7)]), .int .i64 c] w fun e w' => e = .returned (.tuple #[.pointer none, .int .i64 1]) ∧ Below w.heap.size w w' := by
  have HW := Lib.hid (with_any rs hrs c)
  by_cases hn : (1 ≤ n ∧ n ≤ 16) ∧ 0 ≤ fr
  · have HC := Lib.hid (chkNew_any n fr (withS rs c) true hn.1.1 hn.1.2 hn.2)
    have hc : c < 0 ∨ (¬ c < 0 ∧ 1024 ≤ c) := by omega
    generalize withS rs c = all at *
    clear hn hrs h
    rcases hc with hc | ⟨hc, hc2⟩
    all_goals
      go_enter Try.func11, Try.ntmps11
      go_wp2_with fail
      refine (HW.out _).mono ?_; rintro e w1 ⟨rfl, hb⟩
      have B1 : Hid (Below w.heap.size w w1) := ((Below.refl _ _).alloc (Nat.le_refl _) _).trans (hb.mono (by simp))
      have B2 : Hid (Below w.heap.size w (w1.alloc (.cells #[.int .u64 (all 0), .int .u64 (all 1), .int .u64 (all 2), .int .u64 (all 3), .int .u64 (all 4), .int .u64 (all 5), .int .u64 (all 6), .int .u64 (all 7)] 45))) := B1.out.alloc B1.out.size _
      clear hb HW
      go_wp2_with fail
      refine (HC.out _).mono ?_; rintro e w2 ⟨xc, rfl, h⟩
      have H2 := Lib.hid (h.up B2.out).below
      clear h HC
      go_wp2_with fail
      go_ret2
      exact ⟨rfl, H2.out⟩
  · have HC := Lib.hid (chkNew_bad n fr (withS rs c) true hn)
    generalize withS rs c = all at *
    clear hn hrs h
    go_enter Try.func11, Try.ntmps11
    go_wp2_with fail
    refine (HW.out _).mono ?_; rintro e w1 ⟨rfl, hb⟩
    have B1 : Hid (Below w.heap.size w w1) := ((Below.refl _ _).alloc (Nat.le_refl _) _).trans (hb.mono (by simp))
    have B2 : Hid (Below w.heap.size w (w1.alloc (.cells #[.int .u64 (all 0), .int .u64 (all 1), .int .u64 (all 2), .int .u64 (all 3), .int .u64 (all 4), .int .u64 (all 5), .int .u64 (all 6), .int .u64 (all 7)] 45))) := B1.out.alloc B1.out.size _
    clear hb HW
    go_wp2_with fail
    refine (HC.out _).mono ?_; rintro e w2 ⟨rfl, h⟩
    have H2 := Lib.hid (B2.out.trans (h.mono B2.out.size))
    clear h HC
    go_wp2_with fail
    go_ret2
    exact ⟨rfl, H2.out⟩
abbrev FStep (p x xc ring cells : Nat) (l : List Acc) (size fr c : Int) (rs : Nat → Int) (rd : Bool) (val : Int) (s : CS) : HP := Star (CStep p xc ring cells l size fr rs true s) (FetH x xc size c rs rd val)
theorem FStep.good (p x xc ring cells : Nat) (l : List Acc) (size fr c : Int) (rs : Nat → Int) (rd : Bool) (val : Int) (s : CS) : Good (FStep p x xc ring cells l size fr c rs rd val s) := (CStep.good _ _ _ _ _ _ _ _ _ _).star (BlkH.good _ _ _)
set_option maxHeartbeats 2000000 in
theorem fetStep_none (p x xc ring cells : Nat) (l : List Acc) (size : Nat) (fr c : Int) (rs : Nat → Int) (rd : Bool) (val : Int) (s : CS) (th : Int) (hn : ring ≠ size ∨ (cells : Int) ≤ c) :
    Looks Try.prog 13 #[.pointer (some ⟨x, 0, none⟩), .pointer (some ⟨p, 0, none⟩), .int .i64 th] (FStep p x xc ring cells l size fr c rs rd val s) (.returned (ansV 0 0 0 false)) := by
  rintro w F hO
  have GX := Lib.hid (FStep.good p x xc ring cells l size fr c rs rd val s)
  have H0 := Lib.hid ((Stp.refl hO).box GX.out #[.int .i64 0, .int .i64 0, .int .i64 0, .bool false] 49)
  have HG := Lib.hid (GX.out.star (BlkH.good w.heap.size #[.int .i64 0, .int .i64 0, .int .i64 0, .bool false] 49))
  have HS := Lib.hid (Looks.left (B := BlkH w.heap.size #[.int .i64 0, .int .i64 0, .int .i64 0, .bool false] 49) (Looks.left (B := FetH x xc size c rs rd val) (Looks.left (B := ChkH xc size fr rs true s) (sizes_any p ring cells l))))
  have hsz : Hid (w.heap.size ≤ (w.alloc (.cells #[.int .i64 0, .int .i64 0, .int .i64 0, .bool false] 49)).heap.size ∧ Below w.heap.size w (w.alloc (.cells #[.int .i64 0, .int .i64 0, .int .i64 0, .bool false] 49))) := ⟨by simp, (Below.refl _ _).alloc (Nat.le_refl _) _⟩
  clear hO
  go_enter Try.func13, Try.ntmps13
  go_wp2_with fail
  obtain ⟨F1, hF1⟩ := H0.out.has
  have H1' := HS.out _ F1 hF1
  refine H1'.mono ?_
  rintro e w1 ⟨rfl, hb⟩
  have HB : Hid (Below w.heap.size w w1) := hsz.out.2.trans (hb.mono hsz.out.1)
  have H1 := H0.out.below HG.out hb
  obtain ⟨c0, c1, c2, c3, c4, c5, c6, c7, c8, c9, c10, c11, c12, fz⟩ := fet_cells H1.has.left.right.blk
  obtain ⟨r0, r1, r2, r3, rz⟩ := four_cells H1.has.right.blk
  clear hb H1 H1' hF1 H0 HS HG hsz c3 c4 c5 c6 c7 c8 c9 c10
  by_cases hr : ring = size
  · have hst : (cells : Int) ≤ c := hn.resolve_left (fun h => h hr)
    subst hr
    have e1 : ((ring : Int) != (ring : Int)) = false := by simp
    have e2 : decide ((cells : Int) ≤ c) = true := by simpa using hst
    clear hn
    go_wp2_with fail
    refine bodyPost_ret (v := _) (by simp [results, Try.results13, go_sem, r0, r1, r2, r3]; rfl) rfl ?_
    exact ⟨rfl, (((HB.out.setCell (Nat.le_refl _) _).setCell (Nat.le_refl _) _).setCell (Nat.le_refl _) _).setCell (Nat.le_refl _) _⟩
  · have e1 : ((ring : Int) != (size : Int)) = true := by simp; omega
    clear hn hr
    go_wp2_with fail
    refine bodyPost_ret (v := _) (by simp [results, Try.results13, go_sem, r0, r1, r2, r3]; rfl) rfl ?_
    exact ⟨rfl, (((HB.out.setCell (Nat.le_refl _) _).setCell (Nat.le_refl _) _).setCell (Nat.le_refl _) _).setCell (Nat.le_refl _) _⟩
set_option maxHeartbeats 2000000 in
theorem fetStep_read (p x xc ring cells : Nat) (l : List Acc) (hlen : l.length ≤ 100000000000) (fr : Int) (c : Int) (hc0 : 0 ≤ c) (hc1 : c < cells) (rs : Nat → Int) (val : Int) (s : CS) (th : Int) :
    Lifts Try.prog 13 #[.pointer (some ⟨x, 0, none⟩), .pointer (some ⟨p, 0, none⟩), .int .i64 th] (FStep p x xc ring cells l ring fr c rs false val s) (FStep p x xc ring cells (l ++ [ldAcc th 4 c 0 (wordOf l 4 c 0)]) ring fr c rs true (wordOf l 4 c 0) s) (.returned (ansV 2 0 0 true)) := by
  rintro w F hO
  have hxlt : x < w.heap.size := by
    obtain ⟨_, _, _, hx, _⟩ := hO
    exact heap_lt hx.1
  have hne : x ≠ w.heap.size := by omega
  have hne2 : w.heap.size ≠ x := by omega
  have GX := Lib.hid (FStep.good p x xc ring cells l ring fr c rs false val s)
  have GR := Lib.hid (BlkH.good w.heap.size #[.int .i64 0, .int .i64 0, .int .i64 0, .bool false] 49)
  have H0 := Lib.hid ((Stp.refl hO).box GX.out #[.int .i64 0, .int .i64 0, .int .i64 0, .bool false] 49)
  have HS := Lib.hid (Looks.left (B := BlkH w.heap.size #[.int .i64 0, .int .i64 0, .int .i64 0, .bool false] 49) (Looks.left (B := FetH x xc ring c rs false val) (Looks.left (B := ChkH xc ring fr rs true s) (sizes_any p ring cells l))))
  have HL := Lib.hid (Lifts.left (B := BlkH w.heap.size #[.int .i64 0, .int .i64 0, .int .i64 0, .bool false] 49) GR.out (Lifts.left (B := FetH x xc ring c rs false val) (BlkH.good _ _ _) (Lifts.left (B := ChkH xc ring fr rs true s) (BlkH.good _ _ _) (load_in p ring cells l hlen th 4 c 0 (.inr (.inr (.inr ⟨rfl, ⟨hc0, hc1⟩, rfl⟩)))))))
  have e1 : ((ring : Int) != (ring : Int)) = false := by simp
  have e2 : decide ((cells : Int) ≤ c) = false := by simp; omega
  clear hO
  generalize hV : wordOf l 4 c 0 = v at *
  clear hV
  have GM2 := Lib.hid (CStep.good p xc ring cells (l ++ [ldAcc th 4 c 0 v]) ring fr rs true s)
  go_enter Try.func13, Try.ntmps13
  go_wp2_with fail
  refine (Stp.look (GX.out.star GR.out) HS.out H0.out).mono ?_
  rintro e w1 ⟨rfl, h1⟩
  have H1 := Lib.hid h1
  obtain ⟨c0, c1, c2, c3, c4, c5, c6, c7, c8, c9, c10, c11, c12, fz⟩ := fet_cells h1.has.left.right.blk
  clear h1 H0 HS c3 c4 c5 c6 c7 c8 c9 c10
  go_wp2_with fail
  refine (Stp.lift HL.out H1.out).mono ?_
  rintro e w2 ⟨rfl, h2⟩
  have H2 := Lib.hid h2
  clear c0 c1 c2 c11 c12 fz
  obtain ⟨c0, c1, c2, c3, c4, c5, c6, c7, c8, c9, c10, c11, c12, fz⟩ := fet_cells h2.has.left.right.blk
  obtain ⟨r0, r1, r2, r3, rz⟩ := four_cells h2.has.right.blk
  clear h2 H1 HL c3 c4 c5 c6 c7 c8 c9 c10
  go_wp2_with fail
  refine bodyPost_ret (v := _) (by simp [results, Try.results13, go_sem, r0, r1, r2, r3]; rfl) rfl ?_
  have H3 := ((H2.out.move (Moves.left GR.out (Moves.right GM2.out (BlkH.set 12 (.int .i64 v))))).move (Moves.left GR.out (Moves.right GM2.out (BlkH.set 11 (.bool true)))))
  have gq : Good (Star (CStep p xc ring cells (l ++ [ldAcc th 4 c 0 v]) ring fr rs true s) (BlkH x (((fetC xc ring c rs false val).setIfInBounds 12 (.int .i64 v)).setIfInBounds 11 (.bool true)) 102)) := GM2.out.star (BlkH.good _ _ _)
  exact ⟨rfl, (((((H3).move (Moves.right gq (BlkH.set 0 _))).move (Moves.right gq (BlkH.set 1 _))).move (Moves.right gq (BlkH.set 2 _))).move (Moves.right gq (BlkH.set 3 _))).fst⟩
set_option maxHeartbeats 2000000 in
theorem fetStep_done (p x xc ring cells : Nat) (l : List Acc) (Ox : HP) (gO : Good Ox) (er : Int) (b : Bool) (fr c : Int) (hc : c < cells) (rs : Nat → Int) (val : Int) (s : CS) (th : Int) (hL : Lifts Try.prog 37 #[.pointer (some ⟨xc, 0, none⟩), .pointer (some ⟨p, 0, none⟩), .int .i64 th] (CStep p xc ring cells l ring fr rs true s) Ox (.returned (ansV 3 er 0 b))) :
    Lifts Try.prog 13 #[.pointer (some ⟨x, 0, none⟩), .pointer (some ⟨p, 0, none⟩), .int .i64 th] (FStep p x xc ring cells l ring fr c rs true val s) (Star Ox (FetH x xc ring c rs true val)) (.returned (ansV 3 er val b)) := by
  rintro w F hO
  have GX := Lib.hid (FStep.good p x xc ring cells l ring fr c rs true val s)
  have GR := Lib.hid (BlkH.good w.heap.size #[.int .i64 0, .int .i64 0, .int .i64 0, .bool false] 49)
  have GO := Lib.hid ((gO.star (BlkH.good x (fetC xc ring c rs true val) 102)).star GR.out)
  have GO2 := Lib.hid (gO.star (BlkH.good x (fetC xc ring c rs true val) 102))
  have H0 := Lib.hid ((Stp.refl hO).box GX.out #[.int .i64 0, .int .i64 0, .int .i64 0, .bool false] 49)
  have HS := Lib.hid (Looks.left (B := BlkH w.heap.size #[.int .i64 0, .int .i64 0, .int .i64 0, .bool false] 49) (Looks.left (B := FetH x xc ring c rs true val) (Looks.left (B := ChkH xc ring fr rs true s) (sizes_any p ring cells l))))
  have HL := Lib.hid (Lifts.left (B := BlkH w.heap.size #[.int .i64 0, .int .i64 0, .int .i64 0, .bool false] 49) GR.out (Lifts.left (B := FetH x xc ring c rs true val) (BlkH.good _ _ _) hL))
  have e1 : ((ring : Int) != (ring : Int)) = false := by simp
  have e2 : decide ((cells : Int) ≤ c) = false := by simp; omega
  clear hO hL gO
  go_enter Try.func13, Try.ntmps13
  go_wp2_with fail
  refine (Stp.look (GX.out.star GR.out) HS.out H0.out).mono ?_
  rintro e w1 ⟨rfl, h1⟩
  have H1 := Lib.hid h1
  obtain ⟨c0, c1, c2, c3, c4, c5, c6, c7, c8, c9, c10, c11, c12, fz⟩ := fet_cells h1.has.left.right.blk
  clear h1 H0 HS c3 c4 c5 c6 c7 c8 c9 c10
  go_wp2_with fail
  refine (Stp.lift HL.out H1.out).mono ?_
  rintro e w2 ⟨rfl, h2⟩
  have H2 := Lib.hid h2
  have hlw := heap_lt h2.has.right.blk
  have hlx := heap_lt h2.has.left.right.blk
  have hne : w.heap.size ≠ w2.heap.size := by omega
  have hne2 : w2.heap.size ≠ w.heap.size := by omega
  have hnx : x ≠ w2.heap.size := by omega
  clear c0 c1 c2 c11 c12 fz
  obtain ⟨c0, c1, c2, c3, c4, c5, c6, c7, c8, c9, c10, c11, c12, fz⟩ := fet_cells h2.has.left.right.blk
  obtain ⟨r0, r1, r2, r3, rz⟩ := four_cells h2.has.right.blk
  clear h2
  clear H1 HL c3 c4 c5 c6 c7 c8 c9 c10
  unfold ansV
  go_wp2_with fail
  refine bodyPost_ret (v := _) (by simp [results, Try.results13, go_sem, r0, r1, r2, r3, hlw]; rfl) rfl ?_
  exact ⟨rfl, (((((H2.out.move (Moves.right GO2.out (BlkH.set 0 _))).move (Moves.right GO2.out (BlkH.set 1 _))).move (Moves.right GO2.out (BlkH.set 2 _))).move (Moves.right GO2.out (BlkH.set 3 _))).fst).below GO2.out ((Below.refl _ _).alloc (Nat.le_refl _) _)⟩
set_option maxHeartbeats 2000000 in
theorem fetStep_on (p x xc ring cells : Nat) (l : List Acc) (Ox : HP) (gO : Good Ox) (kd er : Int) (hk : kd ≠ 3) (b : Bool) (fr c : Int) (hc : c < cells) (rs : Nat → Int) (val : Int) (s : CS) (th : Int) (hL : Lifts Try.prog 37 #[.pointer (some ⟨xc, 0, none⟩), .pointer (some ⟨p, 0, none⟩), .int .i64 th] (CStep p xc ring cells l ring fr rs true s) Ox (.returned (ansV kd er 0 b))) :
    Lifts Try.prog 13 #[.pointer (some ⟨x, 0, none⟩), .pointer (some ⟨p, 0, none⟩), .int .i64 th] (FStep p x xc ring cells l ring fr c rs true val s) (Star Ox (FetH x xc ring c rs true val)) (.returned (ansV kd er 0 b)) := by
  rintro w F hO
  have GX := Lib.hid (FStep.good p x xc ring cells l ring fr c rs true val s)
  have GR := Lib.hid (BlkH.good w.heap.size #[.int .i64 0, .int .i64 0, .int .i64 0, .bool false] 49)
  have GO := Lib.hid ((gO.star (BlkH.good x (fetC xc ring c rs true val) 102)).star GR.out)
  have GO2 := Lib.hid (gO.star (BlkH.good x (fetC xc ring c rs true val) 102))
  have H0 := Lib.hid ((Stp.refl hO).box GX.out #[.int .i64 0, .int .i64 0, .int .i64 0, .bool false] 49)
  have HS := Lib.hid (Looks.left (B := BlkH w.heap.size #[.int .i64 0, .int .i64 0, .int .i64 0, .bool false] 49) (Looks.left (B := FetH x xc ring c rs true val) (Looks.left (B := ChkH xc ring fr rs true s) (sizes_any p ring cells l))))
  have HL := Lib.hid (Lifts.left (B := BlkH w.heap.size #[.int .i64 0, .int .i64 0, .int .i64 0, .bool false] 49) GR.out (Lifts.left (B := FetH x xc ring c rs true val) (BlkH.good _ _ _) hL))
  have e1 : ((ring : Int) != (ring : Int)) = false := by simp
  have e2 : decide ((cells : Int) ≤ c) = false := by simp; omega
  have e3 : (kd == 3) = false := by simp [hk]
  clear hO hL gO hk
  go_enter Try.func13, Try.ntmps13
  go_wp2_with fail
  refine (Stp.look (GX.out.star GR.out) HS.out H0.out).mono ?_
  rintro e w1 ⟨rfl, h1⟩
  have H1 := Lib.hid h1
  obtain ⟨c0, c1, c2, c3, c4, c5, c6, c7, c8, c9, c10, c11, c12, fz⟩ := fet_cells h1.has.left.right.blk
  clear h1 H0 HS c3 c4 c5 c6 c7 c8 c9 c10
  go_wp2_with fail
  refine (Stp.lift HL.out H1.out).mono ?_
  rintro e w2 ⟨rfl, h2⟩
  have H2 := Lib.hid h2
  have hlw := heap_lt h2.has.right.blk
  have hlx := heap_lt h2.has.left.right.blk
  have hne : w.heap.size ≠ w2.heap.size := by omega
  have hne2 : w2.heap.size ≠ w.heap.size := by omega
  have hnx : x ≠ w2.heap.size := by omega
  clear c0 c1 c2 c11 c12 fz
  obtain ⟨c0, c1, c2, c3, c4, c5, c6, c7, c8, c9, c10, c11, c12, fz⟩ := fet_cells h2.has.left.right.blk
  obtain ⟨r0, r1, r2, r3, rz⟩ := four_cells h2.has.right.blk
  clear h2
  clear H1 HL c3 c4 c5 c6 c7 c8 c9 c10
  unfold ansV
  go_wp2_with fail
  refine bodyPost_ret (v := _) (by simp [results, Try.results13, go_sem, r0, r1, r2, r3, hlw]; rfl) rfl ?_
  exact ⟨rfl, (((((H2.out.move (Moves.right GO2.out (BlkH.set 0 _))).move (Moves.right GO2.out (BlkH.set 1 _))).move (Moves.right GO2.out (BlkH.set 2 _))).move (Moves.right GO2.out (BlkH.set 3 _))).fst).below GO2.out ((Below.refl _ _).alloc (Nat.le_refl _) _)⟩
end Go.Proofs.Ytcbjbmbibnmohaa
