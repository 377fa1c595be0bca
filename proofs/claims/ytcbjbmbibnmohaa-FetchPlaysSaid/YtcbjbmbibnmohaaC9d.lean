/- Layer 9: the program's machine as an object; New, Step, Start, Reads. -/
import Derived.Test.YtcbjbmbibnmohaaC8d
import Derived.Test.YtcbjbmbibnmohaaC2h
import Derived.Test.YtcbjbmbibnmohaaC9i
import Derived.Test.YtcbjbmbibnmohaaG0
import Derived.Test.YtcbjbmbibnmohaaW8b
import Derived.Test.YtcbjbmbibnmohaaS8
import Derived.Test.YtcbjbmbibnmohaaS3
namespace Go.Proofs.Ytcbjbmbibnmohaa
open Go.RowKit
set_option linter.unusedVariables false
def fetC (xc : Nat) (size c : Int) (rs : Nat → Int) (rd : Bool) (val : Int) : Array Value := #[.pointer (some ⟨xc, 0, none⟩), .int .i64 size, .int .i64 c, .int .u64 (rs 0), .int .u64 (rs 1), .int .u64 (rs 2), .int .u64 (rs 3), .int .u64 (rs 4), .int .u64 (rs 5), .int .u64 (rs 6), .int .u64 (rs 7), .bool rd, .int .i64 val]
abbrev FetH (x xc : Nat) (size c : Int) (rs : Nat → Int) (rd : Bool) (val : Int) : HP := BlkH x (fetC xc size c rs rd val) 102
/-- What the walk reads of the machine. -/
structure FetR (w : World) (x xc : Nat) (size c : Int) (rs : Nat → Int) (rd : Bool) (val : Int) : Prop where
  c0 : w.cell? ⟨x, 0, none⟩ = some (.pointer (some ⟨xc, 0, none⟩))
  c1 : w.cell? ⟨x, 1, none⟩ = some (.int .i64 size)
  c2 : w.cell? ⟨x, 2, none⟩ = some (.int .i64 c)
  c3 : w.cell? ⟨x, 3, none⟩ = some (.int .u64 (rs 0))
  c4 : w.cell? ⟨x, 4, none⟩ = some (.int .u64 (rs 1))
  c5 : w.cell? ⟨x, 5, none⟩ = some (.int .u64 (rs 2))
  c6 : w.cell? ⟨x, 6, none⟩ = some (.int .u64 (rs 3))
  c7 : w.cell? ⟨x, 7, none⟩ = some (.int .u64 (rs 4))
  c8 : w.cell? ⟨x, 8, none⟩ = some (.int .u64 (rs 5))
  c9 : w.cell? ⟨x, 9, none⟩ = some (.int .u64 (rs 6))
  c10 : w.cell? ⟨x, 10, none⟩ = some (.int .u64 (rs 7))
  c11 : w.cell? ⟨x, 11, none⟩ = some (.bool rd)
  c12 : w.cell? ⟨x, 12, none⟩ = some (.int .i64 val)
  fz : ∀ o, w.frozen? ⟨x, o, none⟩ = false
theorem fet_cells {w : World} {x xc : Nat} {size c : Int} {rs : Nat → Int} {rd : Bool} {val : Int} {T : TypeId} (h : w.heap[x]? = some (.cells (fetC xc size c rs rd val) T)) : FetR w x xc size c rs rd val where
  c0 := by simp [World.cell?, h, fetC]
  c1 := by simp [World.cell?, h, fetC]
  c2 := by simp [World.cell?, h, fetC]
  c3 := by simp [World.cell?, h, fetC]
  c4 := by simp [World.cell?, h, fetC]
  c5 := by simp [World.cell?, h, fetC]
  c6 := by simp [World.cell?, h, fetC]
  c7 := by simp [World.cell?, h, fetC]
  c8 := by simp [World.cell?, h, fetC]
  c9 := by simp [World.cell?, h, fetC]
  c10 := by simp [World.cell?, h, fetC]
  c11 := by simp [World.cell?, h, fetC]
  c12 := by simp [World.cell?, h, fetC]
  fz := fun o => by simp [World.frozen?, h]
/-- The program's New has answered. -/
def FetNew (w : World) (n fr : Int) (rs : Nat → Int) (c : Int) (e : Ending) (w' : World) : Prop := ∃ x xc, e = .returned (.tuple #[.pointer (some ⟨x, 0, none⟩), .int .i64 0]) ∧ AtW w (Star (ChkH xc n fr (withS rs c) true ⟨0, fr, 0, 0, 0⟩) (FetH x xc n c (withS rs c) false 0)) w'
theorem fetNew_any (n fr : Int) (rs : Nat → Int) (hrs : Wds rs) (c : Int) (h1 : 1 ≤ n) (h2 : n ≤ 16) (h3 : 0 ≤ fr) (hc0 : 0 ≤ c) (hc1 : c < 1024) (w : World) : Calls Try.prog 11 #[.int .i64 n, .int .i64 fr, (.agg #[.int .u64 (rs 0), .int .u64 (rs 1), .int .u64 (rs 2), .int .u64 (rs 3), .int .u64 (rs 4), .int .u64 (rs 5), .int .u64 (rs 6), .int .u64 (rs 7)]), .int .i64 c] w (FetNew w n fr rs c) := by
  have HC := Lib.hid (chkNew_any n fr (withS rs c) true h1 h2 h3)
  have HW := Lib.hid (with_any rs hrs c)
  have HE : Hid (∀ e w', FetNew w n fr rs c e w' = ∃ x xc, e = .returned (.tuple #[.pointer (some ⟨x, 0, none⟩), .int .i64 0]) ∧ AtW w (Star (ChkH xc n fr (withS rs c) true ⟨0, fr, 0, 0, 0⟩) (FetH x xc n c (withS rs c) false 0)) w') := fun _ _ => rfl
  generalize withS rs c = all at *
  clear h1 h2 h3 hrs
  go_enter Try.func11, Try.ntmps11
  go_wp2_with fail
  refine (HW.out _).mono ?_; rintro e w1 ⟨rfl, hb⟩
  have B1 : Hid (Below w.heap.size w w1) := ((Below.refl _ _).alloc (Nat.le_refl _) _).trans (hb.mono (by simp))
  have B2 : Hid (Below w.heap.size w (w1.alloc (.cells #[.int .u64 (all 0), .int .u64 (all 1), .int .u64 (all 2), .int .u64 (all 3), .int .u64 (all 4), .int .u64 (all 5), .int .u64 (all 6), .int .u64 (all 7)] 45))) := B1.out.alloc B1.out.size _
  clear hb HW
  go_wp2_with fail
  refine (HC.out _).mono ?_; rintro e w2 ⟨xc, rfl, h⟩
  obtain ⟨d0, d1, d2, d3, d4, d5, d6, d7, dz⟩ := blk_facts ((h.below.block _ (by simp)).trans (heapAlloc w1 (.cells #[.int .u64 (all 0), .int .u64 (all 1), .int .u64 (all 2), .int .u64 (all 3), .int .u64 (all 4), .int .u64 (all 5), .int .u64 (all 6), .int .u64 (all 7)] 45)))
  have H2 := Lib.hid (h.up B2.out)
  clear h HC
  go_wp2_with fail
  go_ret2
  rw [HE.out]
  exact ⟨_, _, rfl, H2.out.box (BlkH.good _ _ _) (fetC xc n c all false 0) 102⟩
theorem fetNew_bad (n fr : Int) (rs : Nat → Int) (hrs : Wds rs) (c : Int) (h : ¬ (((1 ≤ n ∧ n ≤ 16) ∧ 0 ≤ fr) ∧ 0 ≤ c ∧ c < 1024)) (w : World) : Calls Try.prog 11 #[.int .i64 n, .int .i64 fr, (.agg #[.int .u64 (rs 0), .int .u64 (rs 1), .int .u64 (rs 2), .int .u64 (rs 3), .int .u64 (rs 4), .int .u64 (rs 5), .int .u64 (rs 6), .int .u64 (rs 7)]), .int .i64 c] w fun e w' => e = .returned (.tuple #[.pointer none, .int .i64 1]) ∧ Below w.heap.size w w' := by
  have HW := Lib.hid (with_any rs hrs c)
  by_cases hn : (1 ≤ n ∧ n ≤ 16) ∧ 0 ≤ fr
  · have HC := Lib.hid (chkNew_any n fr (withS rs c) true hn.1.1 hn.1.2 hn.2)
    have hc : c < 0 ∨ (¬ c < 0 ∧ 1024 ≤ c) := by omega
    generalize withS rs c = all at *
    clear hn hrs h
    rcases hc with hc | ⟨hc, hc2⟩
    all_goals
      go_enter Try.func11, Try.ntmps11
      go_wp2_with fail
      refine (HW.out _).mono ?_; rintro e w1 ⟨rfl, hb⟩
      have B1 : Hid (Below w.heap.size w w1) := ((Below.refl _ _).alloc (Nat.le_refl _) _).trans (hb.mono (by simp))
      have B2 : Hid (Below w.heap.size w (w1.alloc (.cells #[.int .u64 (all 0), .int .u64 (all 1), .int .u64 (all 2), .int .u64 (all 3), .int .u64 (all 4), .int .u64 (all 5), .int .u64 (all 6), .int .u64 (all 7)] 45))) := B1.out.alloc B1.out.size _
      clear hb HW
      go_wp2_with fail
      refine (HC.out _).mono ?_; rintro e w2 ⟨xc, rfl, h⟩
      have H2 := Lib.hid (h.up B2.out).below
      clear h HC
      go_wp2_with fail
      go_ret2
      exact ⟨rfl, H2.out⟩
  · have HC := Lib.hid (chkNew_bad n fr (withS rs c) true hn)
    generalize withS rs c = all at *
    clear hn hrs h
    go_enter Try.func11, Try.ntmps11
    go_wp2_with fail
    refine (HW.out _).mono ?_; rintro e w1 ⟨rfl, hb⟩
    have B1 : Hid (Below w.heap.size w w1) := ((Below.refl _ _).alloc (Nat.le_refl _) _).trans (hb.mono (by simp))
    have B2 : Hid (Below w.heap.size w (w1.alloc (.cells #[.int .u64 (all 0), .int .u64 (all 1), .int .u64 (all 2), .int .u64 (all 3), .int .u64 (all 4), .int .u64 (all 5), .int .u64 (all 6), .int .u64 (all 7)] 45))) := B1.out.alloc B1.out.size _
    clear hb HW
    go_wp2_with fail
    refine (HC.out _).mono ?_; rintro e w2 ⟨rfl, h⟩
    have H2 := Lib.hid (B2.out.trans (h.mono B2.out.size))
    clear h HC
    go_wp2_with fail
    go_ret2
    exact ⟨rfl, H2.out⟩
abbrev FStep (p x xc ring cells : Nat) (l : List Acc) (size fr c : Int) (rs : Nat → Int) (rd : Bool) (val : Int) (s : CS) : HP := Star (CStep p xc ring cells l size fr rs true s) (FetH x xc size c rs rd val)
theorem FStep.good (p x xc ring cells : Nat) (l : List Acc) (size fr c : Int) (rs : Nat → Int) (rd : Bool) (val : Int) (s : CS) : Good (FStep p x xc ring cells l size fr c rs rd val s) := (CStep.good _ _ _ _ _ _ _ _ _ _).star (BlkH.good _ _ _)
set_option maxHeartbeats 2000000 in
theorem fetStep_none (p x xc ring cells : Nat) (l : List Acc) (size : Nat) (fr c : Int) (rs : Nat → Int) (rd : Bool) (val : Int) (s : CS) (th : Int) (hn : ring ≠ size ∨ (cells : Int) ≤ c) :
    Looks Try.prog 13 #[.pointer (some ⟨x, 0, none⟩), .pointer (some ⟨p, 0, none⟩), .int .i64 th] (FStep p x xc ring cells l size fr c rs rd val s) (.returned (ansV 0 0 0 false)) := by
  rintro w F hO
  have GX := Lib.hid (FStep.good p x xc ring cells l size fr c rs rd val s)
  have H0 := Lib.hid ((Stp.refl hO).box GX.out #[.int .i64 0, .int .i64 0, .int .i64 0, .bool false] 49)
  have HG := Lib.hid (GX.out.star (BlkH.good w.heap.size #[.int .i64 0, .int .i64 0, .int .i64 0, .bool false] 49))
  have HS := Lib.hid (Looks.left (B := BlkH w.heap.size #[.int .i64 0, .int .i64 0, .int .i64 0, .bool false] 49) (Looks.left (B := FetH x xc size c rs rd val) (Looks.left (B := ChkH xc size fr rs true s) (sizes_any p ring cells l))))
  have hsz : Hid (w.heap.size ≤ (w.alloc (.cells #[.int .i64 0, .int .i64 0, .int .i64 0, .bool false] 49)).heap.size ∧ Below w.heap.size w (w.alloc (.cells #[.int .i64 0, .int .i64 0, .int .i64 0, .bool false] 49))) := ⟨by simp, (Below.refl _ _).alloc (Nat.le_refl _) _⟩
  clear hO
  go_enter Try.func13, Try.ntmps13
  go_wp2_with fail
  obtain ⟨F1, hF1⟩ := H0.out.has
  have H1' := HS.out _ F1 hF1
  refine H1'.mono ?_
  rintro e w1 ⟨rfl, hb⟩
  have HB : Hid (Below w.heap.size w w1) := hsz.out.2.trans (hb.mono hsz.out.1)
  have H1 := H0.out.below HG.out hb
  obtain ⟨c0, c1, c2, c3, c4, c5, c6, c7, c8, c9, c10, c11, c12, fz⟩ := fet_cells H1.has.left.right.blk
  obtain ⟨r0, r1, r2, r3, rz⟩ := four_cells H1.has.right.blk
  clear hb H1 H1' hF1 H0 HS HG hsz c3 c4 c5 c6 c7 c8 c9 c10
  by_cases hr : ring = size
  · have hst : (cells : Int) ≤ c := hn.resolve_left (fun h => h hr)
    subst hr
    have e1 : ((ring : Int) != (ring : Int)) = false := by simp
    have e2 : decide ((cells : Int) ≤ c) = true := by simpa using hst
    clear hn
    go_wp2_with fail
    refine bodyPost_ret (v := _) (by simp [results, Try.results13, go_sem, r0, r1, r2, r3]; rfl) rfl ?_
    exact ⟨rfl, (((HB.out.setCell (Nat.le_refl _) _).setCell (Nat.le_refl _) _).setCell (Nat.le_refl _) _).setCell (Nat.le_refl _) _⟩
  · have e1 : ((ring : Int) != (size : Int)) = true := by simp; omega
    clear hn hr
    go_wp2_with fail
    refine bodyPost_ret (v := _) (by simp [results, Try.results13, go_sem, r0, r1, r2, r3]; rfl) rfl ?_
    exact ⟨rfl, (((HB.out.setCell (Nat.le_refl _) _).setCell (Nat.le_refl _) _).setCell (Nat.le_refl _) _).setCell (Nat.le_refl _) _⟩
set_option maxHeartbeats 2000000 in
theorem fetStep_read (p x xc ring cells : Nat) (l : List Acc) (hlen : l.length ≤ 3000000000000) (fr : Int) (c : Int) (hc0 : 0 ≤ c) (hc1 : c < cells) (rs : Nat → Int) (val : Int) (s : CS) (th : Int) :
    Lifts Try.prog 13 #[.pointer (some ⟨x, 0, none⟩), .pointer (some ⟨p, 0, none⟩), .int .i64 th] (FStep p x xc ring cells l ring fr c rs false val s) (FStep p x xc ring cells (l ++ [ldAcc th 4 c 0 (wordOf l 4 c 0)]) ring fr c rs true (wordOf l 4 c 0) s) (.returned (ansV 2 0 0 true)) := by
  rintro w F hO
  have hxlt : x < w.heap.size := by
    obtain ⟨_, _, _, hx, _⟩ := hO
    exact heap_lt hx.1
  have hne : x ≠ w.heap.size := by omega
  have hne2 : w.heap.size ≠ x := by omega
  have GX := Lib.hid (FStep.good p x xc ring cells l ring fr c rs false val s)
  have GR := Lib.hid (BlkH.good w.heap.size #[.int .i64 0, .int .i64 0, .int .i64 0, .bool false] 49)
  have H0 := Lib.hid ((Stp.refl hO).box GX.out #[.int .i64 0, .int .i64 0, .int .i64 0, .bool false] 49)
  have HS := Lib.hid (Looks.left (B := BlkH w.heap.size #[.int .i64 0, .int .i64 0, .int .i64 0, .bool false] 49) (Looks.left (B := FetH x xc ring c rs false val) (Looks.left (B := ChkH xc ring fr rs true s) (sizes_any p ring cells l))))
  have HL := Lib.hid (Lifts.left (B := BlkH w.heap.size #[.int .i64 0, .int .i64 0, .int .i64 0, .bool false] 49) GR.out (Lifts.left (B := FetH x xc ring c rs false val) (BlkH.good _ _ _) (Lifts.left (B := ChkH xc ring fr rs true s) (BlkH.good _ _ _) (load_in p ring cells l hlen th 4 c 0 (.inr (.inr (.inr ⟨rfl, ⟨hc0, hc1⟩, rfl⟩)))))))
  have e1 : ((ring : Int) != (ring : Int)) = false := by simp
  have e2 : decide ((cells : Int) ≤ c) = false := by simp; omega
  clear hO
  generalize hV : wordOf l 4 c 0 = v at *
  clear hV
  have GM2 := Lib.hid (CStep.good p xc ring cells (l ++ [ldAcc th 4 c 0 v]) ring fr rs true s)
  go_enter Try.func13, Try.ntmps13
  go_wp2_with fail
  refine (Stp.look (GX.out.star GR.out) HS.out H0.out).mono ?_
  rintro e w1 ⟨rfl, h1⟩
  have H1 := Lib.hid h1
  obtain ⟨c0, c1, c2, c3, c4, c5, c6, c7, c8, c9, c10, c11, c12, fz⟩ := fet_cells h1.has.left.right.blk
  clear h1 H0 HS c3 c4 c5 c6 c7 c8 c9 c10
  go_wp2_with fail
  refine (Stp.lift HL.out H1.out).mono ?_
  rintro e w2 ⟨rfl, h2⟩
  have H2 := Lib.hid h2
  clear c0 c1 c2 c11 c12 fz
  obtain ⟨c0, c1, c2, c3, c4, c5, c6, c7, c8, c9, c10, c11, c12, fz⟩ := fet_cells h2.has.left.right.blk
  obtain ⟨r0, r1, r2, r3, rz⟩ := four_cells h2.has.right.blk
  clear h2 H1 HL c3 c4 c5 c6 c7 c8 c9 c10
  go_wp2_with fail
  refine bodyPost_ret (v := _) (by simp [results, Try.results13, go_sem, r0, r1, r2, r3]; rfl) rfl ?_
  have H3 := ((H2.out.move (Moves.left GR.out (Moves.right GM2.out (BlkH.set 12 (.int .i64 v))))).move (Moves.left GR.out (Moves.right GM2.out (BlkH.set 11 (.bool true)))))
  have gq : Good (Star (CStep p xc ring cells (l ++ [ldAcc th 4 c 0 v]) ring fr rs true s) (BlkH x (((fetC xc ring c rs false val).setIfInBounds 12 (.int .i64 v)).setIfInBounds 11 (.bool true)) 102)) := GM2.out.star (BlkH.good _ _ _)
  exact ⟨rfl, (((((H3).move (Moves.right gq (BlkH.set 0 _))).move (Moves.right gq (BlkH.set 1 _))).move (Moves.right gq (BlkH.set 2 _))).move (Moves.right gq (BlkH.set 3 _))).fst⟩
set_option maxHeartbeats 2000000 in
theorem fetStep_done (p x xc ring cells : Nat) (l : List Acc) (Ox : HP) (gO : Good Ox) (er : Int) (b : Bool) (fr c : Int) (hc : c < cells) (rs : Nat → Int) (val : Int) (s : CS) (th : Int) (hL : Lifts Try.prog 37 #[.pointer (some ⟨xc, 0, none⟩), .pointer (some ⟨p, 0, none⟩), .int .i64 th] (CStep p xc ring cells l ring fr rs true s) Ox (.returned (ansV 3 er 0 b))) :
    Lifts Try.prog 13 #[.pointer (some ⟨x, 0, none⟩), .pointer (some ⟨p, 0, none⟩), .int .i64 th] (FStep p x xc ring cells l ring fr c rs true val s) (Star Ox (FetH x xc ring c rs true val)) (.returned (ansV 3 er val b)) := by
  rintro w F hO
  have GX := Lib.hid (FStep.good p x xc ring cells l ring fr c rs true val s)
  have GR := Lib.hid (BlkH.good w.heap.size #[.int .i64 0, .int .i64 0, .int .i64 0, .bool false] 49)
  have GO := Lib.hid ((gO.star (BlkH.good x (fetC xc ring c rs true val) 102)).star GR.out)
  have GO2 := Lib.hid (gO.star (BlkH.good x (fetC xc ring c rs true val) 102))
  have H0 := Lib.hid ((Stp.refl hO).box GX.out #[.int .i64 0, .int .i64 0, .int .i64 0, .bool false] 49)
  have HS := Lib.hid (Looks.left (B := BlkH w.heap.size #[.int .i64 0, .int .i64 0, .int .i64 0, .bool false] 49) (Looks.left (B := FetH x xc ring c rs true val) (Looks.left (B := ChkH xc ring fr rs true s) (sizes_any p ring cells l))))
  have HL := Lib.hid (Lifts.left (B := BlkH w.heap.size #[.int .i64 0, .int .i64 0, .int .i64 0, .bool false] 49) GR.out (Lifts.left (B := FetH x xc ring c rs true val) (BlkH.good _ _ _) hL))
  have e1 : ((ring : Int) != (ring : Int)) = false := by simp
  have e2 : decide ((cells : Int) ≤ c) = false := by simp; omega
  clear hO hL gO
  go_enter Try.func13, Try.ntmps13
  go_wp2_with fail
  refine (Stp.look (GX.out.star GR.out) HS.out H0.out).mono ?_
  rintro e w1 ⟨rfl, h1⟩
  have H1 := Lib.hid h1
  obtain ⟨c0, c1, c2, c3, c4, c5, c6, c7, c8, c9, c10, c11, c12, fz⟩ := fet_cells h1.has.left.right.blk
  clear h1 H0 HS c3 c4 c5 c6 c7 c8 c9 c10
  go_wp2_with fail
  refine (Stp.lift HL.out H1.out).mono ?_
  rintro e w2 ⟨rfl, h2⟩
  have H2 := Lib.hid h2
  have hlw := heap_lt h2.has.right.blk
  have hlx := heap_lt h2.has.left.right.blk
  have hne : w.heap.size ≠ w2.heap.size := by omega
  have hne2 : w2.heap.size ≠ w.heap.size := by omega
  have hnx : x ≠ w2.heap.size := by omega
  clear c0 c1 c2 c11 c12 fz
  obtain ⟨c0, c1, c2, c3, c4, c5, c6, c7, c8, c9, c10, c11, c12, fz⟩ := fet_cells h2.has.left.right.blk
  obtain ⟨r0, r1, r2, r3, rz⟩ := four_cells h2.has.right.blk
  clear h2
  clear H1 HL c3 c4 c5 c6 c7 c8 c9 c10
  unfold ansV
  go_wp2_with fail
  refine bodyPost_ret (v := _) (by simp [results, Try.results13, go_sem, r0, r1, r2, r3, hlw]; rfl) rfl ?_
  exact ⟨rfl, (((((H2.out.move (Moves.right GO2.out (BlkH.set 0 _))).move (Moves.right GO2.out (BlkH.set 1 _))).move (Moves.right GO2.out (BlkH.set 2 _))).move (Moves.right GO2.out (BlkH.set 3 _))).fst).below GO2.out ((Below.refl _ _).alloc (Nat.le_refl _) _)⟩
set_option maxHeartbeats 2000000 in
theorem fetStep_on (p x xc ring cells : Nat) (l : List Acc) (Ox : HP) (gO : Good Ox) (kd er : Int) (hk : kd ≠ 3) (b : Bool) (fr c : Int) (hc : c < cells) (rs : Nat → Int) (val : Int) (s : CS) (th : Int) (hL : Lifts Try.prog 37 #[.pointer (some ⟨xc, 0, none⟩), .pointer (some ⟨p, 0, none⟩), .int .i64 th] (CStep p xc ring cells l ring fr rs true s) Ox (.returned (ansV kd er 0 b))) :
    Lifts Try.prog 13 #[.pointer (some ⟨x, 0, none⟩), .pointer (some ⟨p, 0, none⟩), .int .i64 th] (FStep p x xc ring cells l ring fr c rs true val s) (Star Ox (FetH x xc ring c rs true val)) (.returned (ansV kd er 0 b)) := by
  rintro w F hO
  have GX := Lib.hid (FStep.good p x xc ring cells l ring fr c rs true val s)
  have GR := Lib.hid (BlkH.good w.heap.size #[.int .i64 0, .int .i64 0, .int .i64 0, .bool false] 49)
  have GO := Lib.hid ((gO.star (BlkH.good x (fetC xc ring c rs true val) 102)).star GR.out)
  have GO2 := Lib.hid (gO.star (BlkH.good x (fetC xc ring c rs true val) 102))
  have H0 := Lib.hid ((Stp.refl hO).box GX.out #[.int .i64 0, .int .i64 0, .int .i64 0, .bool false] 49)
  have HS := Lib.hid (Looks.left (B := BlkH w.heap.size #[.int .i64 0, .int .i64 0, .int .i64 0, .bool false] 49) (Looks.left (B := FetH x xc ring c rs true val) (Looks.left (B := ChkH xc ring fr rs true s) (sizes_any p ring cells l))))
  have HL := Lib.hid (Lifts.left (B := BlkH w.heap.size #[.int .i64 0, .int .i64 0, .int .i64 0, .bool false] 49) GR.out (Lifts.left (B := FetH x xc ring c rs true val) (BlkH.good _ _ _) hL))
  have e1 : ((ring : Int) != (ring : Int)) = false := by simp
  have e2 : decide ((cells : Int) ≤ c) = false := by simp; omega
  have e3 : (kd == 3) = false := by simp [hk]
  clear hO hL gO hk
  go_enter Try.func13, Try.ntmps13
  go_wp2_with fail
  refine (Stp.look (GX.out.star GR.out) HS.out H0.out).mono ?_
  rintro e w1 ⟨rfl, h1⟩
  have H1 := Lib.hid h1
  obtain ⟨c0, c1, c2, c3, c4, c5, c6, c7, c8, c9, c10, c11, c12, fz⟩ := fet_cells h1.has.left.right.blk
  clear h1 H0 HS c3 c4 c5 c6 c7 c8 c9 c10
  go_wp2_with fail
  refine (Stp.lift HL.out H1.out).mono ?_
  rintro e w2 ⟨rfl, h2⟩
  have H2 := Lib.hid h2
  have hlw := heap_lt h2.has.right.blk
  have hlx := heap_lt h2.has.left.right.blk
  have hne : w.heap.size ≠ w2.heap.size := by omega
  have hne2 : w2.heap.size ≠ w.heap.size := by omega
  have hnx : x ≠ w2.heap.size := by omega
  clear c0 c1 c2 c11 c12 fz
  obtain ⟨c0, c1, c2, c3, c4, c5, c6, c7, c8, c9, c10, c11, c12, fz⟩ := fet_cells h2.has.left.right.blk
  obtain ⟨r0, r1, r2, r3, rz⟩ := four_cells h2.has.right.blk
  clear h2
  clear H1 HL c3 c4 c5 c6 c7 c8 c9 c10
  unfold ansV
  go_wp2_with fail
  refine bodyPost_ret (v := _) (by simp [results, Try.results13, go_sem, r0, r1, r2, r3, hlw]; rfl) rfl ?_
  exact ⟨rfl, (((((H2.out.move (Moves.right GO2.out (BlkH.set 0 _))).move (Moves.right GO2.out (BlkH.set 1 _))).move (Moves.right GO2.out (BlkH.set 2 _))).move (Moves.right GO2.out (BlkH.set 3 _))).fst).below GO2.out ((Below.refl _ _).alloc (Nat.le_refl _) _)⟩
end Go.Proofs.Ytcbjbmbibnmohaa
namespace Go.Proofs.Ytcbjbmbibnmohaa
open Go.RowKit
set_option linter.unusedVariables false
/-- A cell of the struct is written. -/
theorem LstH.set {y : Nat} {f f' : Value → Array Value} {T E : TypeId} {L : List Int} {w : World} (i : Nat) (v : Value) (h : ∀ lv, (f lv).setIfInBounds i v = f' lv) : Moves (LstH y f T E L) (LstH y f' T E L) w (w.setCell ⟨y, i, none⟩ v) := by
  rintro F ⟨lv, h1, h2, h3, h4⟩
  refine ⟨F, ⟨lv, (heapSet_eq _ _ _ _ _ _ _ h1).trans (by rw [h]), own_chg h2 (Chg.setCell _ _ _) (fun b hb (e : b = y) => h3 (by rw [hb, e])), h3, h4⟩, (Chg.refl F w).set _ _ (.inr ((h4 y).2 (.inl rfl))), fun _ h => .inl h⟩
/-- The list is struck. -/
theorem LstH.nil {y : Nat} {f f' : Value → Array Value} {T E : TypeId} {L : List Int} {w : World} (i : Nat) (h : ∀ lv, (f lv).setIfInBounds i (.slice none 0 0) = f' (.slice none 0 0)) : Moves (LstH y f T E L) (LstH y f' T E []) w (w.setCell ⟨y, i, none⟩ (.slice none 0 0)) := by
  rintro F ⟨lv, h1, h2, h3, h4⟩
  exact ⟨fun b => b = y, ⟨.slice none 0 0, (heapSet_eq _ _ _ _ _ _ _ h1).trans (by rw [h]), World.ownsRow_nil _ _ _ _, by simp [Value.ownBlock], fun b => by simp [Value.ownBlock]⟩, (Chg.refl F w).set _ _ (.inr ((h4 y).2 (.inl rfl))), fun b hb => .inl ((h4 b).2 (.inl hb))⟩
theorem LstH.newAt {w : World} {y : Nat} (cs : Array Value) (f : Value → Array Value) (T E : TypeId) (hy : y = w.heap.size) (hf : f (.slice none 0 0) = cs) : AtW w (LstH y f T E []) (w.alloc (.cells cs T)) := by
  subst hy; exact LstH.new8 cs f T E hf
theorem rtwo_cells {w : World} {p : Nat} {a b c : Value} {T : TypeId} (h : w.heap[p]? = some (.cells #[a, b, c] T)) : w.cell? ⟨p, 0, none⟩ = some a ∧ w.cell? ⟨p, 1, none⟩ = some b :=
  ⟨by simp [World.cell?, h], by simp [World.cell?, h]⟩
/-- The reference's machine. -/
def f9 (c : Int) (rd : Bool) (val size fr : Int) (rs : Nat → Int) (lv : Value) : Array Value := #[.int .i64 c, .bool rd, .int .i64 val, .int .i64 size, .int .i64 fr, .int .u64 (rs 0), .int .u64 (rs 1), .int .u64 (rs 2), .int .u64 (rs 3), .int .u64 (rs 4), .int .u64 (rs 5), .int .u64 (rs 6), .int .u64 (rs 7), .bool true, lv]
theorem f9_off (c : Int) (rd : Bool) (val size fr : Int) (rs : Nat → Int) : Off3 (f9 c rd val size fr rs) size fr rs true where
  c0 := fun _ => rfl
  c1 := fun _ => rfl
  rd := by
    intro lv k hk
    match k, hk with
    | 0, _ => rfl
    | 1, _ => rfl
    | 2, _ => rfl
    | 3, _ => rfl
    | 4, _ => rfl
    | 5, _ => rfl
    | 6, _ => rfl
    | 7, _ => rfl
  c10 := fun _ => rfl
  c11 := fun _ => rfl
  set := fun _ _ => rfl
abbrev RFetH (y : Nat) (c : Int) (rd : Bool) (val size fr : Int) (rs : Nat → Int) (L : List Int) : HP := RChkH 111 (f9 c rd val size fr rs) y L
theorem rfet_cells {w : World} {y : Nat} {c : Int} {rd : Bool} {val size fr : Int} {rs : Nat → Int} {lv : Value} {T : TypeId} (h : w.heap[y]? = some (.cells (f9 c rd val size fr rs lv) T)) :
    w.cell? ⟨y, 0, none⟩ = some (.int .i64 c) ∧ w.cell? ⟨y, 1, none⟩ = some (.bool rd) ∧ w.cell? ⟨y, 2, none⟩ = some (.int .i64 val) ∧ w.cell? ⟨y, 3, none⟩ = some (.int .i64 size) ∧ ∀ o, w.frozen? ⟨y, o, none⟩ = false :=
  ⟨by simp [World.cell?, h, f9], by simp [World.cell?, h, f9], by simp [World.cell?, h, f9], by simp [World.cell?, h, f9], fun o => by simp [World.frozen?, h]⟩
abbrev RFStep (r y ring cells : Nat) (l : List Acc) (c : Int) (rd : Bool) (val size fr : Int) (rs : Nat → Int) (L : List Int) : HP := Star (RMemH r ring cells l) (RFetH y c rd val size fr rs L)
theorem RFStep.good (r y ring cells : Nat) (l : List Acc) (c : Int) (rd : Bool) (val size fr : Int) (rs : Nat → Int) (L : List Int) : Good (RFStep r y ring cells l c rd val size fr rs L) := (RMemH.good _ _ _ _).star (LstH.good _ _ _ _ _)
set_option maxHeartbeats 1000000 in
theorem rfetStep_none (r y ring cells : Nat) (l : List Acc) (c : Int) (rd : Bool) (val : Int) (size : Nat) (fr : Int) (rs : Nat → Int) (L : List Int) (th : Int) (hn : ring ≠ size ∨ (cells : Int) ≤ c) :
    Looks Try.prog 23 #[.pointer (some ⟨y, 0, none⟩), .pointer (some ⟨r, 0, none⟩), .int .i64 th] (RFStep r y ring cells l c rd val size fr rs L) (.returned (.tuple #[.int .i64 0, .int .i64 0, .int .i64 0])) := by
  rintro w F ⟨_, _, ⟨rv, g1, _⟩, ⟨lv, g2, _⟩, _⟩
  obtain ⟨q0, q1, q2, qz⟩ := three_cells g1
  obtain ⟨c0, c1, c2, c3, fz⟩ := rfet_cells g2
  clear g1 g2
  by_cases hr : ring = size
  · have hst : (cells : Int) ≤ c := hn.resolve_left (fun h => h hr)
    subst hr
    have e1 : ((ring : Int) != (ring : Int)) = false := by simp
    have e2 : decide ((cells : Int) ≤ c) = true := by simpa using hst
    clear hn hst
    go_enter Try.func23, Try.ntmps23
    go_wp2_with fail
    go_quiet (fail)
    go_wp2_with fail
    refine bodyPost_ret (v := _) (by simp [results, Try.results23, go_sem]; rfl) rfl ?_
    exact ⟨rfl, below_drewN (Below.refl _ _) _⟩
  · have e1 : ((ring : Int) != (size : Int)) = true := by simp; omega
    clear hn hr
    go_enter Try.func23, Try.ntmps23
    go_wp2_with fail
    go_quiet (fail)
    go_wp2_with fail
    refine bodyPost_ret (v := _) (by simp [results, Try.results23, go_sem]; rfl) rfl ?_
    exact ⟨rfl, below_drewN (Below.refl _ _) _⟩
set_option maxHeartbeats 1000000 in
theorem rfetStep_read (r y ring cells : Nat) (l : List Acc) (hlen : l.length ≤ 3000000000000) (c : Int) (hc0 : 0 ≤ c) (hc1 : c < cells) (val fr : Int) (rs : Nat → Int) (L : List Int) (th : Int) :
    Lifts Try.prog 23 #[.pointer (some ⟨y, 0, none⟩), .pointer (some ⟨r, 0, none⟩), .int .i64 th] (RFStep r y ring cells l c false val ring fr rs L) (RFStep r y ring cells (l ++ [ldAcc th 4 c 0 (wordOf l 4 c 0)]) c true (wordOf l 4 c 0) ring fr rs L) (.returned (.tuple #[.int .i64 2, .int .i64 0, .int .i64 0])) := by
  rintro w F hO
  have GX := Lib.hid (RFStep.good r y ring cells l c false val ring fr rs L)
  have HO := Lib.hid hO
  have HL := Lib.hid (Lifts.left (B := RFetH y c false val ring fr rs L) (LstH.good _ _ _ _ _) (rload_in r ring cells l hlen th 4 c 0 (.inr (.inr (.inr ⟨rfl, ⟨hc0, hc1⟩, rfl⟩)))))
  obtain ⟨_, _, ⟨rv, g1, _⟩, ⟨lv, g2, _⟩, _⟩ := hO
  obtain ⟨q0, q1, q2, qz⟩ := three_cells g1
  obtain ⟨c0, c1, c2, c3, fz⟩ := rfet_cells g2
  have e1 : ((ring : Int) != (ring : Int)) = false := by simp
  have e2 : decide ((cells : Int) ≤ c) = false := by simp; omega
  clear g1 g2
  generalize hV : wordOf l 4 c 0 = v at *
  clear hV
  have GM2 := Lib.hid (RMemH.good r ring cells (l ++ [ldAcc th 4 c 0 v]))
  go_enter Try.func23, Try.ntmps23
  go_wp2_with fail
  go_quiet (fail)
  have H1 : Hid (Stp w (w.drewN nq) F _) := (Stp.refl HO.out).below GX.out (below_drewN (Below.refl _ _) nq)
  go_wp2_with fail
  refine (Stp.lift HL.out H1.out).mono ?_
  rintro e w2 ⟨rfl, h2⟩
  have H2 := Lib.hid h2
  clear c0 c1 c2 c3 fz q0 q1 q2 qz
  obtain ⟨lv2, g2⟩ : ∃ lv2, w2.heap[y]? = some (.cells (f9 c false val ring fr rs lv2) 111) := by
    obtain ⟨_, lv2, g2, _⟩ := h2.has.right
    exact ⟨lv2, g2⟩
  obtain ⟨c0, c1, c2, c3, fz⟩ := rfet_cells g2
  clear h2 H1 HL g2
  go_wp2_with fail
  refine bodyPost_ret (v := _) (by simp [results, Try.results23, go_sem]; rfl) rfl ?_
  exact ⟨rfl, (H2.out.move (Moves.right GM2.out (LstH.set (f' := f9 c true val ring fr rs) 1 (.bool true) (fun _ => rfl)))).move (Moves.right GM2.out (LstH.set (f' := f9 c true v ring fr rs) 2 (.int .i64 v) (fun _ => rfl)))⟩
set_option maxHeartbeats 1000000 in
theorem rfetStep_done (r y ring cells : Nat) (l : List Acc) (Ox : HP) (gO : Good Ox) (er : Int) (c : Int) (hc : c < cells) (val fr : Int) (rs : Nat → Int) (L : List Int) (th : Int) (hval : ∀ w, Has Ox w → w.cell? ⟨y, 2, none⟩ = some (.int .i64 val) ∧ ∀ o, w.frozen? ⟨y, o, none⟩ = false)
    (hL : Lifts Try.prog 44 #[.pointer (some ⟨y, 3, none⟩), .pointer (some ⟨r, 0, none⟩), .int .i64 th] (RFStep r y ring cells l c true val ring fr rs L) Ox (.returned (.tuple #[.int .i64 3, .int .i64 er]))) :
    Lifts Try.prog 23 #[.pointer (some ⟨y, 0, none⟩), .pointer (some ⟨r, 0, none⟩), .int .i64 th] (RFStep r y ring cells l c true val ring fr rs L) Ox (.returned (.tuple #[.int .i64 3, .int .i64 er, .int .i64 val])) := by
  rintro w F hO
  have GX := Lib.hid (RFStep.good r y ring cells l c true val ring fr rs L)
  have GO := Lib.hid gO
  have HL := Lib.hid hL
  have HV := Lib.hid hval
  have HO := Lib.hid hO
  obtain ⟨_, _, ⟨rv, g1, _⟩, ⟨lv, g2, _⟩, _⟩ := hO
  obtain ⟨q0, q1, q2, qz⟩ := three_cells g1
  obtain ⟨c0, c1, c2, c3, fz⟩ := rfet_cells g2
  have e1 : ((ring : Int) != (ring : Int)) = false := by simp
  have e2 : decide ((cells : Int) ≤ c) = false := by simp; omega
  clear g1 g2 hL gO hval
  go_enter Try.func23, Try.ntmps23
  go_wp2_with fail
  go_quiet (fail)
  have H1 : Hid (Stp w (w.drewN nq) F _) := (Stp.refl HO.out).below GX.out (below_drewN (Below.refl _ _) nq)
  go_wp2_with fail
  refine (Stp.lift HL.out H1.out).mono ?_
  rintro e w2 ⟨rfl, h2⟩
  have H2 := Lib.hid h2
  clear c0 c1 c2 c3 fz q0 q1 q2 qz
  obtain ⟨c2, fz⟩ := HV.out _ h2.has
  clear h2 H1 HL
  go_wp2_with fail
  go_quiet (fail)
  go_wp2_with fail
  refine bodyPost_ret (v := _) (by simp [results, Try.results23, go_sem]; rfl) rfl ?_
  exact ⟨rfl, H2.out.below GO.out (below_drewN (Below.refl _ _) nq)⟩
set_option maxHeartbeats 1000000 in
theorem rfetStep_on (r y ring cells : Nat) (l : List Acc) (Ox : HP) (gO : Good Ox) (k er : Int) (hk : k ≠ 3) (c : Int) (hc : c < cells) (val fr : Int) (rs : Nat → Int) (L : List Int) (th : Int)
    (hL : Lifts Try.prog 44 #[.pointer (some ⟨y, 3, none⟩), .pointer (some ⟨r, 0, none⟩), .int .i64 th] (RFStep r y ring cells l c true val ring fr rs L) Ox (.returned (.tuple #[.int .i64 k, .int .i64 er]))) :
    Lifts Try.prog 23 #[.pointer (some ⟨y, 0, none⟩), .pointer (some ⟨r, 0, none⟩), .int .i64 th] (RFStep r y ring cells l c true val ring fr rs L) Ox (.returned (.tuple #[.int .i64 k, .int .i64 er, .int .i64 0])) := by
  rintro w F hO
  have GX := Lib.hid (RFStep.good r y ring cells l c true val ring fr rs L)
  have GO := Lib.hid gO
  have HL := Lib.hid hL
  have HO := Lib.hid hO
  obtain ⟨_, _, ⟨rv, g1, _⟩, ⟨lv, g2, _⟩, _⟩ := hO
  obtain ⟨q0, q1, q2, qz⟩ := three_cells g1
  obtain ⟨c0, c1, c2, c3, fz⟩ := rfet_cells g2
  have e1 : ((ring : Int) != (ring : Int)) = false := by simp
  have e2 : decide ((cells : Int) ≤ c) = false := by simp; omega
  have e3 : (k == 3) = false := by simp [hk]
  clear g1 g2 hL gO hk
  go_enter Try.func23, Try.ntmps23
  go_wp2_with fail
  go_quiet (fail)
  have H1 : Hid (Stp w (w.drewN nq) F _) := (Stp.refl HO.out).below GX.out (below_drewN (Below.refl _ _) nq)
  go_wp2_with fail
  refine (Stp.lift HL.out H1.out).mono ?_
  rintro e w2 ⟨rfl, h2⟩
  have H2 := Lib.hid h2
  clear c0 c1 c2 c3 fz q0 q1 q2 qz h2 H1 HL
  go_wp2_with fail
  refine bodyPost_ret (v := _) (by simp [results, Try.results23, go_sem]; rfl) rfl ?_
  exact ⟨rfl, H2.out⟩
/-- The reference's New has answered. -/
def RFetNew (w : World) (n fr : Int) (rs : Nat → Int) (c : Int) (e : Ending) (w' : World) : Prop := ∃ y, e = .returned (.pointer (some ⟨y, 0, none⟩)) ∧ AtW w (RFetH y c false 0 n fr (withS rs c) []) w'
theorem rfetNew_any (n fr : Int) (rs : Nat → Int) (hrs : Wds rs) (c : Int) (w : World) : Calls Try.prog 20 #[.int .i64 n, .int .i64 fr, (.agg #[.int .u64 (rs 0), .int .u64 (rs 1), .int .u64 (rs 2), .int .u64 (rs 3), .int .u64 (rs 4), .int .u64 (rs 5), .int .u64 (rs 6), .int .u64 (rs 7)]), .int .i64 c] w (RFetNew w n fr rs c) := by
  have HW := Lib.hid (refWith_any rs hrs c)
  have HE : Hid (∀ e w', RFetNew w n fr rs c e w' = ∃ y, e = .returned (.pointer (some ⟨y, 0, none⟩)) ∧ AtW w (RFetH y c false 0 n fr (withS rs c) []) w') := fun _ _ => rfl
  generalize withS rs c = all at *
  clear hrs
  go_enter Try.func20, Try.ntmps20
  go_wp2_with fail
  refine (HW.out _).mono ?_; rintro e w1 ⟨rfl, hb⟩
  have B1 : Hid (Below w.heap.size w w1) := ((Below.refl _ _).alloc (Nat.le_refl _) _).trans (hb.mono (by simp))
  have B2 : Hid (Below w.heap.size w (w1.alloc (.cells #[.int .u64 (all 0), .int .u64 (all 1), .int .u64 (all 2), .int .u64 (all 3), .int .u64 (all 4), .int .u64 (all 5), .int .u64 (all 6), .int .u64 (all 7)] 45))) := B1.out.alloc B1.out.size _
  clear hb HW
  go_wp2_with fail
  go_ret
  rw [HE.out]
  exact ⟨_, rfl, (LstH.newAt (w := w1.alloc (.cells #[.int .u64 (all 0), .int .u64 (all 1), .int .u64 (all 2), .int .u64 (all 3), .int .u64 (all 4), .int .u64 (all 5), .int .u64 (all 6), .int .u64 (all 7)] 45)) (f9 c false 0 n fr all (.slice none 0 0)) (f9 c false 0 n fr all) _ 2 (by simp) rfl).up B2.out⟩
theorem ftakes_any (s f c : Int) (w : World) : Calls Try.prog 17 #[.int .i64 s, .int .i64 f, .int .i64 c] w fun e w' => e = .returned (.bool (decide (((1 ≤ s ∧ s ≤ 16) ∧ 0 ≤ f) ∧ 0 ≤ c ∧ c < 1024))) ∧ w = w' := by
  have HT := Lib.hid (ktakes_any s f w)
  by_cases h0 : (1 ≤ s ∧ s ≤ 16) ∧ 0 ≤ f
  · rw [decide_eq_true h0] at HT
    by_cases h1 : 0 ≤ c
    · by_cases h2 : c < 1024
      · rw [decide_eq_true (And.intro h0 (And.intro h1 h2))]
        clear h0
        go_enter Try.func17, Try.ntmps17
        go_wp2_with fail
        refine HT.out.mono ?_; rintro e w' ⟨rfl, rfl⟩
        go_wp2_with fail
        go_ret
        exact ⟨rfl, rfl⟩
      · rw [decide_eq_false (fun h => h2 h.2.2)]
        clear h0
        go_enter Try.func17, Try.ntmps17
        go_wp2_with fail
        refine HT.out.mono ?_; rintro e w' ⟨rfl, rfl⟩
        go_wp2_with fail
        go_ret
        exact ⟨ret_bool (by simp [h2]), rfl⟩
    · rw [decide_eq_false (fun h => h1 h.2.1)]
      clear h0
      go_enter Try.func17, Try.ntmps17
      go_wp2_with fail
      refine HT.out.mono ?_; rintro e w' ⟨rfl, rfl⟩
      go_wp2_with fail
      go_ret
      exact ⟨rfl, rfl⟩
  · rw [decide_eq_false h0] at HT
    rw [decide_eq_false (fun h => h0 h.1)]
    clear h0
    go_enter Try.func17, Try.ntmps17
    go_wp2_with fail
    refine HT.out.mono ?_; rintro e w' ⟨rfl, rfl⟩
    go_wp2_with fail
    go_ret
    exact ⟨rfl, rfl⟩
end Go.Proofs.Ytcbjbmbibnmohaa
namespace Go.Proofs.Ytcbjbmbibnmohaa
open Go.RowKit
theorem addrK_isA {size : Nat} (h1 : 1 ≤ size) (h2 : size ≤ 16) {fr : Int} {rs : Nat → Int} {s : CS} {len : Nat} (hi : KInv size fr rs s len) (h4 : s.st < 4) {a b c : Int} (h : addrK size s = (a, b, c)) (cells : Nat) : isA size cells a b c := by
  unfold addrK at h
  rcases hi with ⟨h0, _⟩ | ⟨h0, _⟩ | ⟨h0, _, _, _, _, _, m, hm, hw, _⟩ | ⟨h0, _⟩ | ⟨h0, _⟩
  · rw [if_pos (.inl h0)] at h
    obtain ⟨rfl, rfl, rfl⟩ : 1 = a ∧ 0 = b ∧ 0 = c := by simpa using h
    exact .inl ⟨rfl, rfl, rfl⟩
  · rw [if_neg (by omega), if_pos h0] at h
    obtain ⟨rfl, rfl, rfl⟩ : 2 = a ∧ slotZ s.sk size = b ∧ 0 = c := by simpa using h
    exact .inr (.inl ⟨rfl, slotZ_lt s.sk size (by omega) (by omega), rfl⟩)
  · rw [if_neg (by omega), if_neg (by omega), hw] at h
    obtain ⟨rfl, rfl, rfl⟩ : 3 = a ∧ slotZ s.sk size = b ∧ (m : Int) = c := by simpa using h
    exact .inr (.inr (.inl ⟨rfl, slotZ_lt s.sk size (by omega) (by omega), by omega, by omega⟩))
  · rw [if_pos (.inr h0)] at h
    obtain ⟨rfl, rfl, rfl⟩ : 1 = a ∧ 0 = b ∧ 0 = c := by simpa using h
    exact .inl ⟨rfl, rfl, rfl⟩
  · omega
theorem KInv.rng {size : Nat} {fr : Int} {rs : Nat → Int} {s : CS} {len : Nat} (h : KInv size fr rs s len) (h4 : s.st < 4) (hf : 0 ≤ fr) : KRng s := by
  rcases h with ⟨h0, _⟩ | ⟨h0, _, _, hse, h1, h2, _⟩ | ⟨h0, _, _, hse, h1, h2, m, hm, hw, _⟩ | ⟨h0, _⟩ | ⟨h0, _⟩
  · exact .inl (.inl h0)
  · exact .inr (.inl ⟨h0, by omega, by omega⟩)
  · exact .inr (.inr ⟨h0, ⟨by omega, hse⟩, m, hm, hw⟩)
  · exact .inl (.inr h0)
  · omega
end Go.Proofs.Ytcbjbmbibnmohaa
namespace Go.Proofs.Ytcbjbmbibnmohaa
open Go.RowKit
set_option linter.unusedVariables false
theorem Looks.lifts {P : Program} {f : FuncId} {args : Array Value} {O : HP} {v : Ending} (g : Good O) (h : Looks P f args O v) : Lifts P f args O O v := by
  intro w F hO
  refine (h w F hO).mono ?_
  rintro e w' ⟨rfl, hb⟩
  exact ⟨rfl, Stp.calm g hO hb⟩
/-- A step of the plain check, with all that it leaves. -/
structure KBoth (n : Nat) (fr : Int) (rs : Nat → Int) (la : Bool) (l : List Acc) (s : CS) (L : List Int) (th : Int) (l' : List Acc) (s' : CS) (e' : Int) (L' : List Int) (kd er : Int) (b : Bool) : Prop where
  rel : KRel n fr rs la s' e' L'
  okw : OkW l'
  len : l'.length ≤ l.length + 1
  ans : (kd = 0 ∧ b = false ∧ er = 0) ∨ ((kd = 1 ∨ kd = 2 ∨ kd = 3 ∨ kd = 4) ∧ b = true)
  err : kd ≠ 4 → er = 0
  idle : kd = 0 → 4 ≤ s.st
  done : kd = 3 ↔ (s.st < 4 ∧ s'.st = 4)
  fail : kd = 4 ↔ (s.st < 4 ∧ s'.st = 5)
theorem chk_both (T : TypeId) (f : Value → Array Value) (p x r y n cells : Nat) (hn1 : 1 ≤ n) (hn2 : n ≤ 16) (fr : Int) (hf : 0 ≤ fr) (rs : Nat → Int) (hrs : Wds rs) (la : Bool) (hf3 : Off3 f n fr rs la) (l : List Acc) (hlen : l.length ≤ 3000000000000) (hok : OkW l) (s : CS) (e0 : Int) (L : List Int) (h4 : KRel n fr rs la s e0 L) (th : Int) :
    ∃ l' s' e' L' kd er b, KBoth n fr rs la l s L th l' s' e' L' kd er b ∧
      Lifts Try.prog 37 #[.pointer (some ⟨x, 0, none⟩), .pointer (some ⟨p, 0, none⟩), .int .i64 th] (CStep p x n cells l n fr rs la s) (CStep p x n cells l' n fr rs la s') (.returned (ansV kd er 0 b)) ∧
      Lifts Try.prog 44 #[.pointer (some ⟨y, 3, none⟩), .pointer (some ⟨r, 0, none⟩), .int .i64 th] (RCStep T f r y n cells l L) (RCStep T f r y n cells l' L') (.returned (.tuple #[.int .i64 kd, .int .i64 er])) := by
  have hll := h4.inv.len hn2
  by_cases hst : 4 ≤ s.st
  · have key : ∃ er s0 n0, planK n (Rep n fr rs la L) = (true, er, s0, n0, 0, 0, 0, 0) := by
      by_cases e4 : s.st = 4
      · exact ⟨_, _, _, h4.rep ▸ planK_4 e4⟩
      · exact ⟨_, _, _, h4.rep ▸ planK_5 hst e4⟩
    obtain ⟨er, s0, n0, hp⟩ := key
    exact ⟨l, s, e0, L, 0, 0, false, ⟨h4, hok, by omega, .inl ⟨rfl, rfl, rfl⟩, fun _ => rfl, fun _ => hst, ⟨fun h => by omega, fun h => by omega⟩, ⟨fun h => by omega, fun h => by omega⟩⟩,
      Looks.lifts (CStep.good _ _ _ _ _ _ _ _ _ _) (chkStep_none p x n cells l n fr rs la s th (.inr hst)),
      Looks.lifts (RCStep.good _ _ _ _ _ _ _ _) (rchkStep_thr r y n cells l hn1 hn2 fr hf rs la hf3 L h4.num (by omega) h4.ok th er s0 n0 0 0 0 0 hp)⟩
  · obtain ⟨⟨a, b, c⟩, ha⟩ : ∃ t, addrK n s = t := ⟨_, rfl⟩
    obtain ⟨v, hv⟩ : ∃ v, wordOf l a b c = v := ⟨_, rfl⟩
    obtain ⟨⟨s', kd, er⟩, hs⟩ : ∃ t, stepK n fr rs la s v = t := ⟨_, rfl⟩
    have hvI : I64 v := hv ▸ hok a b c
    have hst' : s.st < 4 := by omega
    have hsy := step_says (size := n) (fr := fr) (last := la) (v := v) h4.inv hst'
    rw [hs] at hsy
    simp only at hsy
    have hp := h4.rep ▸ planK_on (e := e0) hst' ha
    have hA := addrK_isA hn1 hn2 h4.inv hst' ha cells
    have HC := chkStep_go p x n cells l (by omega) hn1 hn2 fr hf rs hrs la s th (h4.inv.rng hst' hf) a b c ha v hv hvI s' kd er hs
    rcases hsy with ⟨rfl, rfl, rfl, hs1, hlt⟩ | ⟨hnw, hq⟩
    · rw [if_pos hs1] at hp
      have hsk : 0 < s'.sk := by
        rcases h4.inv with ⟨h0, _⟩ | ⟨h0, _, _, hse, h1, h2, _⟩ | ⟨h0, _, _, hse, h1, h2, m, hm, hw, _⟩ | ⟨h0, _⟩ | ⟨h0, _⟩ <;> omega
      exact ⟨_, s', e0, L, 1, 0, true, ⟨h4, okW_ld hok _ _ _ _ _, by simp, .inr ⟨.inl rfl, rfl⟩, fun _ => rfl, fun h => by omega, ⟨fun h => by omega, fun h => by omega⟩, ⟨fun h => by omega, fun h => by omega⟩⟩, HC,
        rchkStep_wait r y n cells l hn1 hn2 fr hf rs la hf3 L h4.num (by omega) h4.ok th (by omega) 0 0 0 a b c _ hp hA v hv hvI hsk hlt⟩
    · have hk1 : (stepK n fr rs la s v).2.1 ≠ 1 := by rw [hs]; simp only; omega
      have hok2 : RepOk n fr rs la (L ++ [v]) := h4.ok.snoc (by rw [h4.rep]; exact hst') (by rw [h4.rep]; exact hk1)
      have hrep2 : Rep n fr rs la (L ++ [v]) = (s', er) := by
        rw [Rep_snoc, h4.rep]
        unfold repStep
        simp only [hs]
      have hinv2 : KInv n fr rs s' (L ++ [v]).length := by
        have := h4.inv.step (last := la) (v := v) hn2 hst' hvI hk1
        rw [hs] at this
        rw [List.length_append]
        exact this
      have hrel2 : KRel n fr rs la s' er (L ++ [v]) := ⟨hrep2, hok2, hinv2, fun z hz => (List.mem_append.1 hz).elim (h4.num z) (fun h => by rw [List.mem_singleton.1 h]; exact hvI), fun h5 => by
        rcases hq with ⟨g1, g2, g3⟩ | ⟨g1, g2, g3⟩ | ⟨g1, g2, g3⟩
        · omega
        · omega
        · exact g3⟩
      have key : ∃ th2 e2 s2 n2 a2 b2 c2 d2, planK n (Rep n fr rs la (L ++ [v])) = (th2, e2, s2, n2, a2, b2, c2, d2) ∧ (if th2 = true then if e2 = 0 then Value.tuple #[.int .i64 3, .int .i64 0] else .tuple #[.int .i64 4, .int .i64 e2] else .tuple #[.int .i64 2, .int .i64 0]) = .tuple #[.int .i64 kd, .int .i64 er] := by
        rw [hrep2]
        rcases hq with ⟨g1, rfl, rfl⟩ | ⟨g1, rfl, rfl⟩ | ⟨g1, rfl, g3⟩
        · exact ⟨_, _, _, _, _, _, _, _, planK_on g1 rfl, by simp⟩
        · exact ⟨_, _, _, _, _, _, _, _, planK_4 g1, by simp⟩
        · exact ⟨_, _, _, _, _, _, _, _, planK_5 (by omega) (by omega), by simp [g3]⟩
      obtain ⟨th2, e2, s2, n2, a2, b2, c2, d2, hp2, hans⟩ := key
      have kb : KBoth n fr rs la l s L th (l ++ [ldAcc th a b c v]) s' er (L ++ [v]) kd er true := by
        refine ⟨hrel2, okW_ld hok _ _ _ _ _, by simp, .inr ⟨?_, rfl⟩, ?_, ?_, ?_, ?_⟩
        · rcases hq with ⟨g1, g2, g3⟩ | ⟨g1, g2, g3⟩ | ⟨g1, g2, g3⟩ <;> omega
        · rcases hq with ⟨g1, g2, g3⟩ | ⟨g1, g2, g3⟩ | ⟨g1, g2, g3⟩ <;> omega
        · rcases hq with ⟨g1, g2, g3⟩ | ⟨g1, g2, g3⟩ | ⟨g1, g2, g3⟩ <;> omega
        · rcases hq with ⟨g1, g2, g3⟩ | ⟨g1, g2, g3⟩ | ⟨g1, g2, g3⟩ <;> omega
        · rcases hq with ⟨g1, g2, g3⟩ | ⟨g1, g2, g3⟩ | ⟨g1, g2, g3⟩ <;> omega
      refine ⟨_, s', er, _, kd, er, true, kb, HC, ?_⟩
      rw [← hans]
      by_cases hs1 : s.st = 1
      · rw [if_pos hs1] at hp
        have hsk : 0 < s.sk := by
          rcases h4.inv with ⟨h0, _⟩ | ⟨h0, _, _, hse, h1, h2, _⟩ | ⟨h0, _, _, hse, h1, h2, m, hm, hw, _⟩ | ⟨h0, _⟩ | ⟨h0, _⟩ <;> omega
        exact rchkStep_go2 r y n cells l hn1 hn2 fr hf rs la hf3 L h4.num (by omega) h4.ok th (by omega) 0 0 0 a b c _ hp hA v hv hvI hsk (fun h => hnw ⟨hs1, h⟩) hok2 th2 e2 s2 n2 a2 b2 c2 d2 hp2
      · rw [if_neg hs1] at hp
        exact rchkStep_go1 r y n cells l hn1 hn2 fr hf rs la hf3 L h4.num (by omega) h4.ok th (by omega) 0 0 0 a b c _ hp hA v hv hvI (by omega) hok2 th2 e2 s2 n2 a2 b2 c2 d2 hp2
end Go.Proofs.Ytcbjbmbibnmohaa
namespace Go.Proofs.Ytcbjbmbibnmohaa
open Go.RowKit
set_option linter.unusedVariables false
theorem Looks.pre {P : Program} {f : FuncId} {args : Array Value} {O O' : HP} {v : Ending} (h : ∀ w, Has O w → Has O' w) (k : Looks P f args O' v) : Looks P f args O v := by
  intro w F hO
  obtain ⟨F', h'⟩ := h w ⟨F, hO⟩
  exact k w F' h'
theorem Has.tail {A B C : HP} {w : World} (h : Has (Star (Star A B) C) w) : Has (Star B C) w := by
  obtain ⟨F, F1, FC, ⟨FA, FB, ha, hb, h1, h2⟩, hc, h3, h4⟩ := h
  exact ⟨fun b => FB b ∨ FC b, FB, FC, hb, hc, fun _ => Iff.rfl, fun b k1 k2 => h4 b ((h1 b).2 (.inr k1)) k2⟩
theorem Star.assocL {A B C : HP} {w : World} {F : Nat → Prop} (h : Star A (Star B C) w F) : Star (Star A B) C w F := by
  obtain ⟨FM, FC, hM, ⟨FA, FB, ha, hb, h1, h2⟩, h3, h4⟩ := h
  exact ⟨fun b => FM b ∨ FA b, FB, ⟨FM, FA, hM, ha, fun _ => Iff.rfl, fun b k1 k2 => h4 b k1 ((h1 b).2 (.inl k2))⟩, hb, fun b => by rw [h3 b, h1 b, or_assoc], fun b k1 k2 => k1.elim (fun k => h4 b k ((h1 b).2 (.inr k2))) (fun k => h2 b k k2)⟩
theorem Star.assocR {A B C : HP} {w : World} {F : Nat → Prop} (h : Star (Star A B) C w F) : Star A (Star B C) w F := by
  obtain ⟨F1, FC, ⟨FA, FB, ha, hb, h1, h2⟩, hc, h3, h4⟩ := h
  exact ⟨FA, fun b => FB b ∨ FC b, ha, ⟨FB, FC, hb, hc, fun _ => Iff.rfl, fun b k1 k2 => h4 b ((h1 b).2 (.inr k1)) k2⟩, fun b => by rw [h3 b, h1 b, or_assoc], fun b k1 k2 => k2.elim (fun k => h2 b k1 k) (fun k => h4 b ((h1 b).2 (.inl k1)) k)⟩
theorem fet_both (p x xc r y n ring cells : Nat) (hn1 : 1 ≤ n) (hn2 : n ≤ 16) (fr : Int) (hf : 0 ≤ fr) (c : Int) (hc0 : 0 ≤ c) (rs : Nat → Int) (hrs : Wds rs) (l : List Acc) (hlen : l.length ≤ 3000000000000) (hok : OkW l) (rd : Bool) (val : Int) (s : CS) (e0 : Int) (L : List Int) (h4 : KRel n fr rs true s e0 L) (th : Int) :
    ∃ l' rd' val' s' e' L' kd er v b, KRel n fr rs true s' e' L' ∧ OkW l' ∧ l'.length ≤ l.length + 1 ∧ ((kd = 0 ∧ b = false) ∨ ((kd = 1 ∨ kd = 2 ∨ kd = 3 ∨ kd = 4) ∧ b = true)) ∧
      Lifts Try.prog 13 #[.pointer (some ⟨x, 0, none⟩), .pointer (some ⟨p, 0, none⟩), .int .i64 th] (FStep p x xc ring cells l n fr c rs rd val s) (FStep p x xc ring cells l' n fr c rs rd' val' s') (.returned (ansV kd er v b)) ∧
      Lifts Try.prog 23 #[.pointer (some ⟨y, 0, none⟩), .pointer (some ⟨r, 0, none⟩), .int .i64 th] (RFStep r y ring cells l c rd val n fr rs L) (RFStep r y ring cells l' c rd' val' n fr rs L') (.returned (.tuple #[.int .i64 kd, .int .i64 er, .int .i64 v])) := by
  by_cases hx : ring ≠ n ∨ (cells : Int) ≤ c
  · exact ⟨l, rd, val, s, e0, L, 0, 0, 0, false, h4, hok, by omega, .inl ⟨rfl, rfl⟩, Looks.lifts (FStep.good _ _ _ _ _ _ _ _ _ _ _ _ _) (fetStep_none p x xc ring cells l n fr c rs rd val s th hx), Looks.lifts (RFStep.good _ _ _ _ _ _ _ _ _ _ _ _) (rfetStep_none r y ring cells l c rd val n fr rs L th hx)⟩
  · obtain rfl : ring = n := by omega
    have hc1 : c < cells := by omega
    cases rd with
    | false =>
      exact ⟨_, true, _, s, e0, L, 2, 0, 0, true, h4, okW_ld hok _ _ _ _ _, by simp, .inr ⟨.inr (.inl rfl), rfl⟩, fetStep_read p x xc ring cells l (by omega) fr c hc0 hc1 rs val s th, rfetStep_read r y ring cells l (by omega) c hc0 hc1 val fr rs L th⟩
    | true =>
      obtain ⟨l', s', e', L', kd, er, b, kb, HA, HB⟩ := chk_both 111 (f9 c true val ring fr rs) p xc r y ring cells hn1 hn2 fr hf rs hrs true (f9_off c true val ring fr rs) l hlen hok s e0 L h4 th
      have ka : (kd = 0 ∧ b = false) ∨ ((kd = 1 ∨ kd = 2 ∨ kd = 3 ∨ kd = 4) ∧ b = true) := kb.ans.imp (fun h => ⟨h.1, h.2.1⟩) id
      by_cases hk : kd = 3
      · subst hk
        exact ⟨l', true, val, s', e', L', 3, er, val, b, kb.rel, kb.okw, kb.len, ka, fetStep_done p x xc ring cells l _ (CStep.good _ _ _ _ _ _ _ _ _ _) er b fr c hc1 rs val s th HA,
          rfetStep_done r y ring cells l _ (RCStep.good _ _ _ _ _ _ _ _) er c hc1 val fr rs L th (fun w h => by
            obtain ⟨_, lv, g, _⟩ := h.right
            exact ⟨(rfet_cells g).2.2.1, (rfet_cells g).2.2.2.2⟩) HB⟩
      · exact ⟨l', true, val, s', e', L', kd, er, 0, b, kb.rel, kb.okw, kb.len, ka, fetStep_on p x xc ring cells l _ (CStep.good _ _ _ _ _ _ _ _ _ _) kd er hk b fr c hc1 rs val s th HA, rfetStep_on r y ring cells l _ (RCStep.good _ _ _ _ _ _ _ _) kd er hk c hc1 val fr rs L th HB⟩
theorem fetStart_any (x xc : Nat) (size fr c : Int) (rs : Nat → Int) (rd : Bool) (val : Int) (s : CS) (a b : Int) (t : Bool) (hS : Looks Try.prog 39 #[.pointer (some ⟨xc, 0, none⟩)] (ChkH xc size fr rs true s) (.returned (.tuple #[.int .i64 a, .int .i64 b, .bool t]))) :
    Looks Try.prog 15 #[.pointer (some ⟨x, 0, none⟩)] (Star (ChkH xc size fr rs true s) (FetH x xc size c rs rd val)) (.returned (.tuple #[.int .i64 a, .int .i64 b, .bool t])) := by
  rintro w F hO
  have HS := Lib.hid (Looks.left (B := FetH x xc size c rs rd val) hS w F hO)
  obtain ⟨_, _, _, ⟨hb, _⟩, _⟩ := hO
  obtain ⟨c0, c1, c2, c3, c4, c5, c6, c7, c8, c9, c10, c11, c12, fz⟩ := fet_cells hb
  clear hb hS c1 c2 c3 c4 c5 c6 c7 c8 c9 c10 c11 c12
  go_enter Try.func15, Try.ntmps15
  go_wp2_with fail
  refine HS.out.mono ?_
  rintro e w1 ⟨rfl, hb⟩
  have HB := Lib.hid hb
  clear hb HS
  go_wp2_with fail
  refine bodyPost_ret (v := _) (by simp [results, Try.results15, go_sem]; rfl) rfl ?_
  exact ⟨rfl, HB.out⟩
theorem fetReads_any (x xc : Nat) (size c : Int) (rs : Nat → Int) (rd : Bool) (val : Int) :
    Looks Try.prog 46 #[.pointer (some ⟨x, 0, none⟩)] (FetH x xc size c rs rd val) (.returned (.agg #[.int .u64 (rs 0), .int .u64 (rs 1), .int .u64 (rs 2), .int .u64 (rs 3), .int .u64 (rs 4), .int .u64 (rs 5), .int .u64 (rs 6), .int .u64 (rs 7)])) := by
  rintro w F ⟨hb, _⟩
  obtain ⟨c0, c1, c2, c3, c4, c5, c6, c7, c8, c9, c10, c11, c12, fz⟩ := fet_cells hb
  have hx := heap_lt hb
  have hne : x ≠ w.heap.size := by omega
  have hne2 : w.heap.size ≠ x := by omega
  clear hb c0 c1 c2 c11 c12
  go_enter Try.func46, Try.ntmps46
  go_wp2_with fail
  refine bodyPost_ret (v := _) (by simp [results, Try.results46, go_sem]; rfl) rfl ?_
  exact ⟨rfl, (Below.refl _ _).alloc (Nat.le_refl _) _⟩
set_option maxHeartbeats 1000000 in
theorem accs9_any (v u : Value) (l : List Acc) (hlen : l.length ≤ 3000000000000) (w : World) (hx : w.ownsRow 0 113 8 v l.length (accCells l)) (hy : w.ownsRow 0 113 8 u l.length (accCells l)) :
    Calls Try.prog 25 #[v, u] w fun e w' => e = .returned (.bool true) ∧ Below w.heap.size w w' := by
  obtain ⟨a, ca, rfl⟩ := ownAt_form hx
  obtain ⟨b, cb, rfl⟩ := ownAt_form hy
  have HX := Lib.hid hx
  have HY := Lib.hid hy
  obtain ⟨n, hn⟩ : ∃ n, l.length = n := ⟨_, rfl⟩
  have HN := Lib.hid hn
  rw [hn] at hlen
  rw [hn]
  clear hx hy hn
  go_enter Try.func25, Try.ntmps25
  go_wp2_with fail
  go_loopw [5] (fun i wr => ∃ k : Nat, k ≤ n ∧ i = .int .i64 k ∧ Hid (Below w.heap.size w wr)) (fun i _ => n - (intOf i).toNat)
  case atStart => exact ⟨0, by omega, rfl, Below.refl _ _⟩
  case round =>
    obtain ⟨k, hk, rfl, HB⟩ := hrel
    by_cases hlt : k < n
    · obtain ⟨⟨th, kd, ak, ai, aj, old, val, yes⟩, hxk⟩ : ∃ x, l[k]? = some x := ⟨_, List.getElem?_eq_getElem (by rw [HN.out]; exact hlt)⟩
      obtain ⟨g, c, he, c0, c1, c2, c3, c4, c5, c6, c7⟩ := rmem_acc (own_calm HX.out HB.out) hxk
      rw [HN.out] at he
      obtain ⟨rfl, rfl⟩ : a = some ⟨g, 0, none⟩ ∧ ca = c := by simp at he; exact ⟨he.1, he.2⟩
      obtain ⟨g2, c', he2, d0, d1, d2, d3, d4, d5, d6, d7⟩ := rmem_acc (own_calm HY.out HB.out) hxk
      rw [HN.out] at he2
      obtain ⟨rfl, rfl⟩ : b = some ⟨g2, 0, none⟩ ∧ cb = c' := by simp at he2; exact ⟨he2.1, he2.2⟩
      have hE := eqAcc th kd ak ai aj old val yes
      clear he he2 hxk
      go_wp2_with fail
      go_quiet (fail)
      go_wp2_with fail
      go_roundw
      case rel => exact ⟨k + 1, by omega, by go_num, below_drewN HB.out _⟩
      case measure => simp [intOf]; omega
    · obtain rfl : k = n := by omega
      go_wp2_with fail
      go_ret
      exact ⟨rfl, HB.out⟩
/-- The machines alone. -/
abbrev TwoF (x xc y n : Nat) (fr c : Int) (rs : Nat → Int) (rd : Bool) (val : Int) (s : CS) (L : List Int) : HP := Star (Star (ChkH xc n fr rs true s) (FetH x xc n c rs rd val)) (RFetH y c rd val n fr rs L)
set_option maxHeartbeats 1000000 in
theorem tells9_any (x xc y n : Nat) (hn1 : 1 ≤ n) (hn2 : n ≤ 16) (fr : Int) (hf : 0 ≤ fr) (c : Int) (rs : Nat → Int) (rd : Bool) (val : Int) (s : CS) (e0 : Int) (L : List Int) (hr : KRel n fr rs true s e0 L) :
    Looks Try.prog 24 #[.pointer (some ⟨x, 0, none⟩), .pointer (some ⟨y, 0, none⟩)] (TwoF x xc y n fr c rs rd val s L) (.returned (.bool true)) := by
  rintro w F hO
  have hl := hr.inv.len hn2
  have hE := fun w => (run_sig_eq (rs 0) (rs 1) (rs 2) (rs 3) (rs 4) (rs 5) (rs 6) (rs 7) (rs 0) (rs 1) (rs 2) (rs 3) (rs 4) (rs 5) (rs 6) (rs 7) w)
  simp only [beq_self_eq_true, Bool.and_self] at hE
  have GA := Lib.hid ((BlkH.good xc (chkC n fr rs true s) 122).star (BlkH.good x (fetC xc n c rs rd val) 102))
  have HG := Lib.hid (GA.out.star (LstH.good y (f9 c rd val n fr rs) 111 2 L))
  have HO := Lib.hid hO
  obtain ⟨a, b, t, H1, H2⟩ : ∃ a b t, Looks Try.prog 39 #[.pointer (some ⟨xc, 0, none⟩)] (ChkH xc n fr rs true s) (.returned (.tuple #[.int .i64 a, .int .i64 b, .bool t])) ∧ Looks Try.prog 45 #[.pointer (some ⟨y, 3, none⟩)] (RFetH y c rd val n fr rs L) (.returned (.tuple #[.int .i64 a, .int .i64 b, .bool t])) := by
    by_cases h2 : s.st = 4
    · have hp := hr.rep ▸ planK_4 (size := n) (e := e0) h2
      exact ⟨_, _, _, chkStart_yes xc n fr rs true s h2, rchkStart_yes y n hn1 hn2 fr hf rs true (f9_off c rd val n fr rs) L hr.num (by omega) hr.ok _ _ _ _ _ _ hp⟩
    · refine ⟨_, _, _, chkStart_no xc n fr rs true s h2, ?_⟩
      by_cases h4 : 4 ≤ s.st
      · exact rchkStart_no y n hn1 hn2 fr hf rs true (f9_off c rd val n fr rs) L hr.num (by omega) hr.ok _ _ _ _ _ _ _ _ (hr.rep ▸ planK_5 h4 h2) (.inr (hr.err (hr.inv.st h4 h2)))
      · exact rchkStart_no y n hn1 hn2 fr hf rs true (f9_off c rd val n fr rs) L hr.num (by omega) hr.ok _ _ _ _ _ _ _ _ (hr.rep ▸ planK_on (by omega) rfl) (.inl rfl)
  have HA := Lib.hid (Looks.left (B := RFetH y c rd val n fr rs L) (fetStart_any x xc n fr c rs rd val s a b t H1))
  have HB := Lib.hid (Looks.right (A := Star (ChkH xc n fr rs true s) (FetH x xc n c rs rd val)) H2)
  have HC := Lib.hid (Looks.left (B := RFetH y c rd val n fr rs L) (Looks.right (A := ChkH xc n fr rs true s) (fetReads_any x xc n c rs rd val)))
  clear hO hr hl H1 H2
  go_enter Try.func24, Try.ntmps24
  go_wp2_with fail
  refine (HA.out w F HO.out).mono ?_
  rintro e w1 ⟨rfl, h⟩
  have H1 := Lib.hid h
  clear h
  go_wp2_with fail
  refine (HB.out w1 F (HG.out.calm HO.out H1.out)).mono ?_
  rintro e w2 ⟨rfl, h⟩
  have H2 : Hid (Below w.heap.size w w2) := H1.out.trans (h.mono H1.out.size)
  clear h
  go_wp2_with fail
  refine (HC.out w2 F (HG.out.calm HO.out H2.out)).mono ?_
  rintro e w3 ⟨rfl, h⟩
  have H3 : Hid (Below w.heap.size w w3) := H2.out.trans (h.mono H2.out.size)
  clear h
  obtain ⟨lv, g⟩ : ∃ lv, w3.heap[y]? = some (.cells (f9 c rd val n fr rs lv) 111) := by
    obtain ⟨_, _, _, ⟨lv, g, _⟩, _⟩ := HG.out.calm HO.out H3.out
    exact ⟨lv, g⟩
  have hyl := heap_lt g
  have hne : y ≠ w3.heap.size := by omega
  obtain ⟨_, _, rd8, _, _, fz⟩ := rchk_cells (f9_off c rd val n fr rs) g
  have d0 := rd8 0 (by decide)
  have d1 := rd8 1 (by decide)
  have d2 := rd8 2 (by decide)
  have d3 := rd8 3 (by decide)
  have d4 := rd8 4 (by decide)
  have d5 := rd8 5 (by decide)
  have d6 := rd8 6 (by decide)
  have d7 := rd8 7 (by decide)
  simp only [Nat.add_zero, Nat.reduceAdd] at d0 d1 d2 d3 d4 d5 d6 d7
  clear g rd8 HA HB HC
  go_wp2_with fail
  go_quiet (fail)
  go_wp2_with fail
  go_ret
  exact ⟨rfl, below_drewN (H3.out.alloc H3.out.size _) _⟩
end Go.Proofs.Ytcbjbmbibnmohaa
