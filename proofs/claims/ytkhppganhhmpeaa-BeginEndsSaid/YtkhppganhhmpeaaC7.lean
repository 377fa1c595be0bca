/- Layer 7: the program's machine as an object; New, done, Start, Step. -/
import Derived.Test.YtkhppganhhmpeaaG0
import Derived.Test.YtkhppganhhmpeaaS7
import Derived.Test.YtkhppganhhmpeaaM3
import Derived.Test.YtkhppganhhmpeaaC3h
import Derived.Test.YtkhppganhhmpeaaC3c
import Derived.Test.YtkhppganhhmpeaaC4
import Derived.Deep.RegionHeld3
namespace Go.Proofs.Ytkhppganhhmpeaa
open Go.RowKit
set_option linter.unusedVariables false
def begC (size st seen sk : Int) : Array Value := #[.int .i64 size, .int .i64 st, .int .i64 seen, .int .i64 sk]
abbrev BegH (x : Nat) (size st seen sk : Int) : HP := BlkH x (begC size st seen sk) 87
theorem begNew_bad (s : Int) (h : ¬ (1 ≤ s ∧ s ≤ 16)) (w : World) : Calls Try.prog 10 #[.int .i64 s] w fun e w' => e = .returned (.tuple #[.pointer none, .int .i64 1]) ∧ w = w' := by
  by_cases h1 : 1 ≤ s
  · have h2 : ¬ s ≤ 16 := fun h2 => h ⟨h1, h2⟩
    clear h
    go_enter Try.func10, Try.ntmps10
    go_wp2_with fail
    go_ret2
    exact ⟨rfl, rfl⟩
  · clear h
    go_enter Try.func10, Try.ntmps10
    go_wp2_with fail
    go_ret2
    exact ⟨rfl, rfl⟩
/-- The program's New has answered. -/
def BegNew (w : World) (s : Int) (e : Ending) (w' : World) : Prop := ∃ x, e = .returned (.tuple #[.pointer (some ⟨x, 0, none⟩), .int .i64 0]) ∧ AtW w (BegH x s 0 0 0) w'
theorem begNew_any (s : Int) (h1 : 1 ≤ s) (h2 : s ≤ 16) (w : World) : Calls Try.prog 10 #[.int .i64 s] w (BegNew w s) := by
  go_enter Try.func10, Try.ntmps10
  go_wp2_with fail
  go_ret2
  exact ⟨w.heap.size, rfl, fun b => b = w.heap.size, ⟨heapAlloc _ _, fun _ => Iff.rfl⟩, (Below.refl _ _).alloc (Nat.le_refl _) _, fun b h => by omega⟩
theorem begStart_no (x : Nat) (size st seen sk : Int) (h : st ≠ 2) : Looks Try.prog 14 #[.pointer (some ⟨x, 0, none⟩)] (BegH x size st seen sk) (.returned (.tuple #[.int .i64 0, .int .i64 0, .bool false])) := by
  rintro w F ⟨hb, _⟩
  obtain ⟨p0, p1, p2, p3, fz⟩ := four_cells hb
  have hd : (st != 2) = true := by simp [h]
  clear hb
  go_enter Try.func14, Try.ntmps14
  go_wp2_with fail
  refine bodyPost_ret (v := _) (by simp [results, Try.results14, go_sem]; rfl) rfl ?_
  exact ⟨rfl, Below.refl _ _⟩
theorem begStart_yes (x : Nat) (size seen sk : Int) : Looks Try.prog 14 #[.pointer (some ⟨x, 0, none⟩)] (BegH x size 2 seen sk) (.returned (.tuple #[.int .i64 sk, .int .i64 seen, .bool true])) := by
  rintro w F ⟨hb, _⟩
  obtain ⟨p0, p1, p2, p3, fz⟩ := four_cells hb
  clear hb
  go_enter Try.func14, Try.ntmps14
  go_wp2_with fail
  go_quiet (fail)
  go_wp2_with fail
  refine bodyPost_ret (v := _) (by simp [results, Try.results14, go_sem]; rfl) rfl ?_
  exact ⟨rfl, below_drewN (Below.refl _ _) _⟩
theorem begDone_any (x : Nat) (size st seen sk s : Int) : Lifts Try.prog 34 #[.pointer (some ⟨x, 0, none⟩), .int .i64 s] (BegH x size st seen sk) (BegH x size 2 seen s) (.returned (ansV 3 0 0 true)) := by
  rintro w F ⟨hb, hF⟩
  have HB := Lib.hid hb
  have HF := Lib.hid hF
  obtain ⟨p0, p1, p2, p3, fz⟩ := four_cells hb
  have hx := heap_lt hb
  have hne : x ≠ w.heap.size := by omega
  have hne2 : w.heap.size ≠ x := by omega
  clear hb hF
  go_enter Try.func34, Try.ntmps34
  go_wp2_with fail
  refine bodyPost_ret (v := _) (by simp [results, Try.results34, go_sem]; rfl) rfl ?_
  refine ⟨rfl, F, ⟨?_, HF.out⟩, ?_, fun _ h => .inl h⟩
  · exact heapAlloc_old ((heapSet_eq _ _ _ _ _ _ _ (heapSet_eq _ _ _ _ _ _ _ HB.out)).trans (by simp [begC])) _
  · exact (((Chg.refl F w).set _ _ (.inr ((HF.out x).2 rfl))).set _ _ (.inr ((HF.out x).2 rfl))).more _
abbrev BStep (p x ring cells : Nat) (l : List Acc) (size st seen sk : Int) : HP := Star (MemH p ring cells l) (BegH x size st seen sk)
theorem BStep.good (p x ring cells : Nat) (l : List Acc) (size st seen sk : Int) : Good (BStep p x ring cells l size st seen sk) := (MemH.good _ _ _ _).star (BlkH.good _ _ _)
set_option maxHeartbeats 2000000 in
theorem begStep_none (p x ring cells : Nat) (l : List Acc) (size : Nat) (st seen sk th : Int) (hn : ring ≠ size ∨ st = 2) :
    Looks Try.prog 13 #[.pointer (some ⟨x, 0, none⟩), .pointer (some ⟨p, 0, none⟩), .int .i64 th] (BStep p x ring cells l size st seen sk) (.returned (ansV 0 0 0 false)) := by
  rintro w F hO
  have H0 := Lib.hid ((Stp.refl hO).box (BStep.good _ _ _ _ _ _ _ _ _) #[.int .i64 0, .int .i64 0, .int .i64 0, .bool false] 38)
  have HG := Lib.hid ((BStep.good p x ring cells l size st seen sk).star (BlkH.good w.heap.size #[.int .i64 0, .int .i64 0, .int .i64 0, .bool false] 38))
  have HS := Lib.hid (Looks.left (B := BlkH w.heap.size #[.int .i64 0, .int .i64 0, .int .i64 0, .bool false] 38) (Looks.left (B := BegH x size st seen sk) (sizes_any p ring cells l)))
  have hsz : Hid (w.heap.size ≤ (w.alloc (.cells #[.int .i64 0, .int .i64 0, .int .i64 0, .bool false] 38)).heap.size ∧ Below w.heap.size w (w.alloc (.cells #[.int .i64 0, .int .i64 0, .int .i64 0, .bool false] 38))) := ⟨by simp, (Below.refl _ _).alloc (Nat.le_refl _) _⟩
  clear hO
  go_enter Try.func13, Try.ntmps13
  go_wp2_with fail
  obtain ⟨F1, hF1⟩ := H0.out.has
  have H1' := HS.out _ F1 hF1
  refine H1'.mono ?_
  rintro e w1 ⟨rfl, hb⟩
  have HB : Hid (Below w.heap.size w w1) := hsz.out.2.trans (hb.mono hsz.out.1)
  have H1 := H0.out.below HG.out hb
  obtain ⟨p0, p1, p2, p3, fz⟩ := four_cells H1.has.left.right.blk
  obtain ⟨r0, r1, r2, r3, rz⟩ := four_cells H1.has.right.blk
  clear hb H1 H1' hF1 H0 HS HG hsz
  by_cases hr : ring = size
  · have hst : st = 2 := hn.resolve_left (fun h => h hr)
    subst hr hst
    have e1 : ((ring : Int) != (ring : Int)) = false := by simp
    go_wp2_with fail
    refine bodyPost_ret (v := _) (by simp [results, Try.results13, go_sem, r0, r1, r2, r3]; rfl) rfl ?_
    exact ⟨rfl, (((HB.out.setCell (Nat.le_refl _) _).setCell (Nat.le_refl _) _).setCell (Nat.le_refl _) _).setCell (Nat.le_refl _) _⟩
  · have e1 : ((ring : Int) != (size : Int)) = true := by simp; omega
    clear hn hr
    go_wp2_with fail
    refine bodyPost_ret (v := _) (by simp [results, Try.results13, go_sem, r0, r1, r2, r3]; rfl) rfl ?_
    exact ⟨rfl, (((HB.out.setCell (Nat.le_refl _) _).setCell (Nat.le_refl _) _).setCell (Nat.le_refl _) _).setCell (Nat.le_refl _) _⟩
set_option maxHeartbeats 4000000 in
theorem begStep_new0 (p x ring cells : Nat) (l : List Acc) (hlen : l.length ≤ 3000000000000) (seen sk th : Int) (hv : wordOf l 1 0 0 < 1) :
    Lifts Try.prog 13 #[.pointer (some ⟨x, 0, none⟩), .pointer (some ⟨p, 0, none⟩), .int .i64 th] (BStep p x ring cells l ring 0 seen sk) (BStep p x ring cells (l ++ [ldAcc th 1 0 0 (wordOf l 1 0 0)]) ring 2 (wordOf l 1 0 0) 0) (.returned (ansV 3 0 0 true)) := by
  rintro w F hO
  have hxlt : x < w.heap.size := by
    obtain ⟨_, _, _, hx, _⟩ := hO
    exact heap_lt hx.1
  have hne : x ≠ w.heap.size := by omega
  have hne2 : w.heap.size ≠ x := by omega
  have GM := Lib.hid (MemH.good p ring cells l)
  have GM2 := Lib.hid (MemH.good p ring cells (l ++ [ldAcc th 1 0 0 (wordOf l 1 0 0)]))
  have GR := Lib.hid (BlkH.good w.heap.size #[.int .i64 0, .int .i64 0, .int .i64 0, .bool false] 38)
  have GMX := Lib.hid (BStep.good p x ring cells l ring 0 seen sk)
  have H0 := Lib.hid ((Stp.refl hO).box GMX.out #[.int .i64 0, .int .i64 0, .int .i64 0, .bool false] 38)
  have HS := Lib.hid (Looks.left (B := BlkH w.heap.size #[.int .i64 0, .int .i64 0, .int .i64 0, .bool false] 38) (Looks.left (B := BegH x ring 0 seen sk) (sizes_any p ring cells l)))
  have HL := Lib.hid (Lifts.left (B := BlkH w.heap.size #[.int .i64 0, .int .i64 0, .int .i64 0, .bool false] 38) GR.out (Lifts.left (B := BegH x ring 0 seen sk) (BlkH.good _ _ _) (load_in p ring cells l hlen th 1 0 0 (.inl ⟨rfl, rfl, rfl⟩))))
  have e1 : ((ring : Int) != (ring : Int)) = false := by simp
  clear hO
  generalize hV : wordOf l 1 0 0 = v at *
  clear hV
  go_enter Try.func13, Try.ntmps13
  go_wp2_with fail
  refine (Stp.look (GMX.out.star GR.out) HS.out H0.out).mono ?_
  rintro e w1 ⟨rfl, h1⟩
  have H1 := Lib.hid h1
  obtain ⟨p0, p1, p2, p3, fz⟩ := four_cells h1.has.left.right.blk
  clear h1 H0 HS
  go_wp2_with fail
  refine (Stp.lift HL.out H1.out).mono ?_
  rintro e w2 ⟨rfl, h2⟩
  have H2 := Lib.hid h2
  obtain ⟨p0, p1, p2, p3, fz⟩ := four_cells h2.has.left.right.blk
  obtain ⟨r0, r1, r2, r3, rz⟩ := four_cells h2.has.right.blk
  clear h2 H1 HL
  go_wp2_with fail
  refine (Stp.lift (Lifts.left (B := BlkH w.heap.size #[.int .i64 0, .int .i64 0, .int .i64 0, .bool false] 38) GR.out (Lifts.right GM2.out (begDone_any x _ _ _ _ _))) ((H2.out).move (Moves.left (BlkH.good _ _ _) (Moves.right GM2.out (BlkH.set 2 _))))).mono ?_
  rintro e w4 ⟨rfl, h4⟩
  have H4 := Lib.hid h4
  obtain ⟨r0, r1, r2, r3, rz⟩ := four_cells h4.has.right.blk
  clear h4
  unfold ansV
  go_wp2_with fail
  refine bodyPost_ret (v := _) (by simp [results, Try.results13, go_sem, r0, r1, r2, r3]; rfl) rfl ?_
  exact ⟨rfl, (((((H4.out).move (Moves.right (GM2.out.star (BlkH.good _ _ _)) (BlkH.set 0 _))).move (Moves.right (GM2.out.star (BlkH.good _ _ _)) (BlkH.set 1 _))).move (Moves.right (GM2.out.star (BlkH.good _ _ _)) (BlkH.set 2 _))).move (Moves.right (GM2.out.star (BlkH.good _ _ _)) (BlkH.set 3 _))).fst⟩
set_option maxHeartbeats 4000000 in
theorem begStep_new1 (p x ring cells : Nat) (l : List Acc) (hlen : l.length ≤ 3000000000000) (seen sk th : Int) (hv : ¬ wordOf l 1 0 0 < 1) :
    Lifts Try.prog 13 #[.pointer (some ⟨x, 0, none⟩), .pointer (some ⟨p, 0, none⟩), .int .i64 th] (BStep p x ring cells l ring 0 seen sk) (BStep p x ring cells (l ++ [ldAcc th 1 0 0 (wordOf l 1 0 0)]) ring 1 (wordOf l 1 0 0) (wordOf l 1 0 0)) (.returned (ansV 2 0 0 true)) := by
  rintro w F hO
  have hxlt : x < w.heap.size := by
    obtain ⟨_, _, _, hx, _⟩ := hO
    exact heap_lt hx.1
  have hne : x ≠ w.heap.size := by omega
  have hne2 : w.heap.size ≠ x := by omega
  have GM := Lib.hid (MemH.good p ring cells l)
  have GM2 := Lib.hid (MemH.good p ring cells (l ++ [ldAcc th 1 0 0 (wordOf l 1 0 0)]))
  have GR := Lib.hid (BlkH.good w.heap.size #[.int .i64 0, .int .i64 0, .int .i64 0, .bool false] 38)
  have GMX := Lib.hid (BStep.good p x ring cells l ring 0 seen sk)
  have H0 := Lib.hid ((Stp.refl hO).box GMX.out #[.int .i64 0, .int .i64 0, .int .i64 0, .bool false] 38)
  have HS := Lib.hid (Looks.left (B := BlkH w.heap.size #[.int .i64 0, .int .i64 0, .int .i64 0, .bool false] 38) (Looks.left (B := BegH x ring 0 seen sk) (sizes_any p ring cells l)))
  have HL := Lib.hid (Lifts.left (B := BlkH w.heap.size #[.int .i64 0, .int .i64 0, .int .i64 0, .bool false] 38) GR.out (Lifts.left (B := BegH x ring 0 seen sk) (BlkH.good _ _ _) (load_in p ring cells l hlen th 1 0 0 (.inl ⟨rfl, rfl, rfl⟩))))
  have e1 : ((ring : Int) != (ring : Int)) = false := by simp
  clear hO
  generalize hV : wordOf l 1 0 0 = v at *
  clear hV
  go_enter Try.func13, Try.ntmps13
  go_wp2_with fail
  refine (Stp.look (GMX.out.star GR.out) HS.out H0.out).mono ?_
  rintro e w1 ⟨rfl, h1⟩
  have H1 := Lib.hid h1
  obtain ⟨p0, p1, p2, p3, fz⟩ := four_cells h1.has.left.right.blk
  clear h1 H0 HS
  go_wp2_with fail
  refine (Stp.lift HL.out H1.out).mono ?_
  rintro e w2 ⟨rfl, h2⟩
  have H2 := Lib.hid h2
  obtain ⟨p0, p1, p2, p3, fz⟩ := four_cells h2.has.left.right.blk
  obtain ⟨r0, r1, r2, r3, rz⟩ := four_cells h2.has.right.blk
  clear h2 H1 HL
  go_wp2_with fail
  refine bodyPost_ret (v := _) (by simp [results, Try.results13, go_sem, r0, r1, r2, r3]; rfl) rfl ?_
  exact ⟨rfl, ((((((((H2.out).move (Moves.left (BlkH.good _ _ _) (Moves.right GM2.out (BlkH.set 2 _)))).move (Moves.left (BlkH.good _ _ _) (Moves.right GM2.out (BlkH.set 1 _)))).move (Moves.left (BlkH.good _ _ _) (Moves.right GM2.out (BlkH.set 3 _)))).move (Moves.right (GM2.out.star (BlkH.good _ _ _)) (BlkH.set 0 _))).move (Moves.right (GM2.out.star (BlkH.good _ _ _)) (BlkH.set 1 _))).move (Moves.right (GM2.out.star (BlkH.good _ _ _)) (BlkH.set 2 _))).move (Moves.right (GM2.out.star (BlkH.good _ _ _)) (BlkH.set 3 _))).fst⟩
end Go.Proofs.Ytkhppganhhmpeaa
