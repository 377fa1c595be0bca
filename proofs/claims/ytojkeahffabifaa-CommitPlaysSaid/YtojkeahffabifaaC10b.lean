/- Layer 10: the machine's head, looks, needs, moves. -/
import Derived.Test.YtojkeahffabifaaC10
namespace Go.Proofs.Ytojkeahffabifaa
open Go.RowKit
set_option linter.unusedVariables false
theorem ComH.good (x xc : Nat) (n last fr : Int) (rs : Nat → Int) (mu : Bool) (st seen stamp : Int) : Good (ComH x xc n last fr rs mu st seen stamp) := BlkH.good _ _ _
theorem comMoved_any (x xc : Nat) (n last fr : Int) (rs : Nat → Int) (mu : Bool) (st seen stamp t : Int) : Lifts Try.prog 38 #[.pointer (some ⟨x, 0, none⟩), .int .i64 t] (ComH x xc n last fr rs mu st seen stamp) (ComH x xc n last fr rs mu t seen stamp) (.returned (ansV 2 0 0 true)) := by
  rintro w F ⟨hb, hF⟩
  have HB := Lib.hid hb
  have HF := Lib.hid hF
  have hR := com_cells hb
  have c18 := hR.c18
  have fz := hR.fz
  have hx := heap_lt hb
  have hne : x ≠ w.heap.size := by omega
  have hne2 : w.heap.size ≠ x := by omega
  clear hb hF hR
  go_enter Try.func38, Try.ntmps38
  go_wp2_with fail
  refine bodyPost_ret (v := _) (by simp [results, Try.results38, go_sem]; rfl) rfl ?_
  refine ⟨rfl, F, ⟨?_, HF.out⟩, ?_, fun _ h => .inl h⟩
  · exact heapAlloc_old ((heapSet_eq _ _ _ _ _ _ _ HB.out).trans (by simp [comC])) _
  · exact ((Chg.refl F w).set _ _ (.inr ((HF.out x).2 rfl))).more _
set_option maxHeartbeats 2000000 in
theorem comHead_any (p x xc ring cells : Nat) (l : List Acc) (hlen : l.length ≤ 3000000000000) (hr1 : 1 ≤ ring) (hr2 : ring ≤ 16) (last fr : Int) (rs : Nat → Int) (mu : Bool) (st seen stamp th sp : Int) :
    Lifts Try.prog 50 #[.pointer (some ⟨x, 0, none⟩), .pointer (some ⟨p, 0, none⟩), .int .i64 th, .int .i64 sp] (Star (MemH p ring cells l) (ComH x xc ring last fr rs mu st seen stamp)) (Star (MemH p ring cells (l ++ [ldAcc th 2 (slotZ sp ring) 0 (wordOf l 2 (slotZ sp ring) 0)])) (ComH x xc ring last fr rs mu st seen stamp)) (.returned (.int .i64 (wordOf l 2 (slotZ sp ring) 0))) := by
  rintro w F hO
  have hR := com_cells (Stp.refl hO).has.right.blk
  have c1 := hR.c1
  have fz := hR.fz
  have hsr : 0 ≤ slotZ sp ring ∧ slotZ sp ring < ring := by
    unfold slotZ; rw [if_pos (by omega)]
    exact ⟨Int.emod_nonneg _ (by omega), Int.emod_lt_of_pos _ (by omega)⟩
  have HSL := Lib.hid (fun w => slot_any sp ring w)
  have HL := Lib.hid (Stp.lift (Lifts.left (ComH.good x xc ring last fr rs mu st seen stamp) (load_in p ring cells l hlen th 2 (slotZ sp ring) 0 (.inr (.inl ⟨rfl, hsr, rfl⟩)))) (Stp.refl hO))
  clear hO hR hsr
  go_enter Try.func50, Try.ntmps50
  go_wp2_with fail
  refine (HSL.out w).mono ?_; rintro e w' ⟨rfl, rfl⟩
  go_wp2_with fail
  refine HL.out.mono ?_; rintro e w2 ⟨rfl, h⟩
  have H2 := Lib.hid h
  clear h HL
  go_wp2_with fail
  go_ret
  exact ⟨rfl, H2.out⟩
theorem comAlways_any (x xc : Nat) (n last fr : Int) (rs : Nat → Int) (st seen stamp : Int) (mu : Bool) : Looks Try.prog (if mu = true then 36 else 34) #[.pointer (some ⟨x, 0, none⟩)] (ComH x xc n last fr rs mu st seen stamp) (.returned (.bool (needB mu seen))) := by
  rintro w F ⟨hb, hF⟩
  have hR := com_cells hb
  have c8 := hR.c8
  have fz := hR.fz
  clear hb hF hR
  cases mu
  · rw [if_neg (by decide)]
    go_enter Try.func34, Try.ntmps34
    go_wp2_with fail
    go_ret
    exact ⟨ret_bool (by simp [needB]), Below.refl _ _⟩
  · rw [if_pos rfl]
    go_enter Try.func36, Try.ntmps36
    go_wp2_with fail
    go_ret
    exact ⟨ret_bool (by simp [needB]), Below.refl _ _⟩
set_option maxHeartbeats 2000000 in
theorem comLooks_any (p x xc ring cells : Nat) (l : List Acc) (hlen : l.length ≤ 3000000000000) (hr1 : 1 ≤ ring) (hr2 : ring ≤ 16) (last fr : Int) (rs : Nat → Int) (mu : Bool) (st seen stamp th : Int) (hs0 : 0 ≤ seen) (hs1 : seen ≤ 1099511627776) :
    Lifts Try.prog (if mu = true then 35 else 33) #[.pointer (some ⟨x, 0, none⟩), .pointer (some ⟨p, 0, none⟩), .int .i64 th] (Star (MemH p ring cells l) (ComH x xc ring last fr rs mu st seen stamp)) (Star (MemH p ring cells (l ++ [ldAcc th 2 (slotZ (lookZ mu seen) ring) 0 (wordOf l 2 (slotZ (lookZ mu seen) ring) 0)])) (ComH x xc ring last fr rs mu st seen stamp)) (.returned (.bool (lookB ring mu seen (wordOf l 2 (slotZ (lookZ mu seen) ring) 0)))) := by
  rintro w F hO
  have hR := com_cells (Stp.refl hO).has.right.blk
  have c1 := hR.c1
  have c8 := hR.c8
  have fz := hR.fz
  have GO := Lib.hid ((MemH.good p ring cells l).star (ComH.good x xc ring last fr rs mu st seen stamp))
  have HD := Lib.hid (fun sp => Stp.lift (comHead_any p x xc ring cells l hlen hr1 hr2 last fr rs mu st seen stamp th sp) ((Stp.refl hO).drew GO.out))
  clear hO hR
  cases mu
  · rw [if_neg (by decide)]
    unfold lookB lookZ
    simp only [Bool.false_eq_true, if_false]
    generalize hV : wordOf l 2 (slotZ seen ring) 0 = v at *
    have HV := Lib.hid hV
    clear hV
    go_enter Try.func33, Try.ntmps33
    go_wp2_with fail
    go_region_law (first | (go_simp; go_at_call 50; refine (HD.out _).mono ?_; rintro e w2 ⟨rfl, h⟩; rw [HV.out] at h; have H2 := Lib.hid h; have hR2 := com_cells h.has.right.blk; have k8 := hR2.c8; have kz := hR2.fz; rw [HV.out]; clear h hR2) | (go_simp; go_at_call 49; refine (over_any _ _ _).mono ?_; rintro e w3 ⟨rfl, rfl⟩))
    all_goals
      go_wp2_with fail
      go_ret
      exact ⟨rfl, H2.out⟩
  · rw [if_pos rfl]
    unfold lookB lookZ
    simp only [if_true]
    have HW : Hid (IntKind.i64.wrap (seen + 1) = seen + 1) := by
      show _ = _
      rw [IntKind.wrap_i64]; omega
    have HFR := Lib.hid (fun v w => free_any v (seen + 1) ring ⟨by omega, by omega⟩ w)
    generalize hV : wordOf l 2 (slotZ (seen + 1) ring) 0 = v at *
    have HV := Lib.hid hV
    clear hV
    go_enter Try.func35, Try.ntmps35
    go_wp2_with fail
    go_region_law (first | (go_simp; go_at_call 50; (try rw [HW.out]); refine (HD.out _).mono ?_; rintro e w2 ⟨rfl, h⟩; rw [HV.out] at h; have H2 := Lib.hid h; have hR2 := com_cells h.has.right.blk; have k8 := hR2.c8; have k1 := hR2.c1; have kz := hR2.fz; rw [HV.out]; clear h hR2) | (go_simp; go_at_call 51; (try rw [HW.out]); refine (HFR.out _ _).mono ?_; rintro e w3 ⟨rfl, rfl⟩))
    all_goals
      go_wp2_with fail
      go_ret
      exact ⟨rfl, H2.out⟩
end Go.Proofs.Ytojkeahffabifaa
