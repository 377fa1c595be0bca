/- Layer 8: the program's Step at a word. -/
import Derived.Test.YtecbnialcnplkaaC8f
namespace Go.Proofs.Ytecbnialcnplkaa
open Go.RowKit
set_option linter.unusedVariables false
set_option maxHeartbeats 2000000 in
theorem chkStep_again1 (p x ring cells : Nat) (l : List Acc) (hlen : l.length ≤ 100000000000) (hr1 : 1 ≤ ring) (hr2 : ring ≤ 16) (fr : Int) (rs : Nat → Int) (last : Bool) (s : CS) (th : Int) (hf : 0 ≤ fr) (hst : s.st = 3) (hvI : I64 (wordOf l 1 0 0)) (hfar : farB ring fr (wordOf l 1 0 0) = true) :
    Lifts Try.prog 13 #[.pointer (some ⟨x, 0, none⟩), .pointer (some ⟨p, 0, none⟩), .int .i64 th] (CStep p x ring cells l ring fr rs last s) (CStep p x ring cells (l ++ [ldAcc th 1 0 0 (wordOf l 1 0 0)]) ring fr rs last ⟨5, s.start, s.seen, s.sk, s.word⟩) (.returned (ansV 4 4 0 true)) := by
  rintro w F hO
  have hxlt : x < w.heap.size := by
    obtain ⟨_, _, _, hx, _⟩ := hO
    exact heap_lt hx.1
  have hne : x ≠ w.heap.size := by omega
  have hne2 : w.heap.size ≠ x := by omega
  have GR := Lib.hid (BlkH.good w.heap.size #[.int .i64 0, .int .i64 0, .int .i64 0, .bool false] 48)
  have GMX := Lib.hid (CStep.good p x ring cells l ring fr rs last s)
  have H0 := Lib.hid ((Stp.refl hO).box GMX.out #[.int .i64 0, .int .i64 0, .int .i64 0, .bool false] 48)
  have HS := Lib.hid (Looks.left (B := BlkH w.heap.size #[.int .i64 0, .int .i64 0, .int .i64 0, .bool false] 48) (Looks.left (B := ChkH x ring fr rs last s) (sizes_any p ring cells l)))
  have e1 : ((ring : Int) != (ring : Int)) = false := by simp
  clear hO
  have GM2 := Lib.hid (MemH.good p ring cells (l ++ [ldAcc th 1 0 0 (wordOf l 1 0 0)]))
  have HL := Lib.hid (Lifts.left (B := BlkH w.heap.size #[.int .i64 0, .int .i64 0, .int .i64 0, .bool false] 48) GR.out (Lifts.left (B := ChkH x ring fr rs last s) (BlkH.good _ _ _) (load_in p ring cells l hlen th 1 0 0 (.inl ⟨rfl, rfl, rfl⟩))))
  generalize hV : wordOf l 1 0 0 = v at *
  have HV := Lib.hid hV
  clear hV
  obtain ⟨hv1, hv2⟩ := hvI
  go_enter Try.func13, Try.ntmps13
  go_wp2_with fail
  refine (Stp.look (GMX.out.star GR.out) HS.out H0.out).mono ?_
  rintro e w1 ⟨rfl, h1⟩
  have H1 := Lib.hid h1
  obtain ⟨c0, c1, rd, c10, c11, c12, c13, c14, c15, fz⟩ := chk_cells h1.has.left.right.blk
  rw [hst] at c11
  clear h1 H0 HS rd
  go_wp2_with fail
  refine (Stp.lift HL.out H1.out).mono ?_
  rintro e w2 ⟨rfl, h2⟩
  have H2 := Lib.hid h2
  clear h2 HL c0 c1 c10 c11 c12 c13 c14 c15 fz H1
  go_wp2_with fail
  refine (Stp.look ((GM2.out.star (BlkH.good _ _ _)).star (BlkH.good _ _ _)) (Looks.left (B := BlkH w.heap.size #[.int .i64 0, .int .i64 0, .int .i64 0, .bool false] 48) (Looks.right (A := MemH p ring cells (l ++ [ldAcc th 1 0 0 v])) (chkFar_any x ring hr2 fr hf rs last s v ⟨hv1, hv2⟩))) H2.out).mono ?_
  rw [hfar]
  rintro e w5 ⟨rfl, h5⟩
  have H5 := Lib.hid h5
  clear h5 H2
  go_wp2_with fail
  refine (Stp.lift (Lifts.left (B := BlkH w.heap.size #[.int .i64 0, .int .i64 0, .int .i64 0, .bool false] 48) GR.out (Lifts.right GM2.out (chkFails_any x ring fr rs last s 4))) (H5.out)).mono ?_
  rintro e w9 ⟨rfl, h9⟩
  have H9 := Lib.hid h9
  obtain ⟨r0, r1, r2, r3, rz⟩ := four_cells h9.has.right.blk
  clear h9
  unfold ansV
  go_wp2_with fail
  refine bodyPost_ret (v := _) (by simp [results, Try.results13, go_sem, r0, r1, r2, r3]; rfl) rfl ?_
  exact ⟨rfl, (((((H9.out).move (Moves.right (GM2.out.star (BlkH.good _ _ _)) (BlkH.set 0 _))).move (Moves.right (GM2.out.star (BlkH.good _ _ _)) (BlkH.set 1 _))).move (Moves.right (GM2.out.star (BlkH.good _ _ _)) (BlkH.set 2 _))).move (Moves.right (GM2.out.star (BlkH.good _ _ _)) (BlkH.set 3 _))).fst⟩
set_option maxHeartbeats 2000000 in
theorem chkStep_again0 (p x ring cells : Nat) (l : List Acc) (hlen : l.length ≤ 100000000000) (hr1 : 1 ≤ ring) (hr2 : ring ≤ 16) (fr : Int) (rs : Nat → Int) (last : Bool) (s : CS) (th : Int) (hf : 0 ≤ fr) (hst : s.st = 3) (hvI : I64 (wordOf l 1 0 0)) (hfar : farB ring fr (wordOf l 1 0 0) = false) :
    Lifts Try.prog 13 #[.pointer (some ⟨x, 0, none⟩), .pointer (some ⟨p, 0, none⟩), .int .i64 th] (CStep p x ring cells l ring fr rs last s) (CStep p x ring cells (l ++ [ldAcc th 1 0 0 (wordOf l 1 0 0)]) ring fr rs last ⟨4, s.start, s.seen, s.sk, s.word⟩) (.returned (ansV 3 0 0 true)) := by
  rintro w F hO
  have hxlt : x < w.heap.size := by
    obtain ⟨_, _, _, hx, _⟩ := hO
    exact heap_lt hx.1
  have hne : x ≠ w.heap.size := by omega
  have hne2 : w.heap.size ≠ x := by omega
  have GR := Lib.hid (BlkH.good w.heap.size #[.int .i64 0, .int .i64 0, .int .i64 0, .bool false] 48)
  have GMX := Lib.hid (CStep.good p x ring cells l ring fr rs last s)
  have H0 := Lib.hid ((Stp.refl hO).box GMX.out #[.int .i64 0, .int .i64 0, .int .i64 0, .bool false] 48)
  have HS := Lib.hid (Looks.left (B := BlkH w.heap.size #[.int .i64 0, .int .i64 0, .int .i64 0, .bool false] 48) (Looks.left (B := ChkH x ring fr rs last s) (sizes_any p ring cells l)))
  have e1 : ((ring : Int) != (ring : Int)) = false := by simp
  clear hO
  have GM2 := Lib.hid (MemH.good p ring cells (l ++ [ldAcc th 1 0 0 (wordOf l 1 0 0)]))
  have HL := Lib.hid (Lifts.left (B := BlkH w.heap.size #[.int .i64 0, .int .i64 0, .int .i64 0, .bool false] 48) GR.out (Lifts.left (B := ChkH x ring fr rs last s) (BlkH.good _ _ _) (load_in p ring cells l hlen th 1 0 0 (.inl ⟨rfl, rfl, rfl⟩))))
  generalize hV : wordOf l 1 0 0 = v at *
  have HV := Lib.hid hV
  clear hV
  obtain ⟨hv1, hv2⟩ := hvI
  go_enter Try.func13, Try.ntmps13
  go_wp2_with fail
  refine (Stp.look (GMX.out.star GR.out) HS.out H0.out).mono ?_
  rintro e w1 ⟨rfl, h1⟩
  have H1 := Lib.hid h1
  obtain ⟨c0, c1, rd, c10, c11, c12, c13, c14, c15, fz⟩ := chk_cells h1.has.left.right.blk
  rw [hst] at c11
  clear h1 H0 HS rd
  go_wp2_with fail
  refine (Stp.lift HL.out H1.out).mono ?_
  rintro e w2 ⟨rfl, h2⟩
  have H2 := Lib.hid h2
  clear h2 HL c0 c1 c10 c11 c12 c13 c14 c15 fz H1
  go_wp2_with fail
  refine (Stp.look ((GM2.out.star (BlkH.good _ _ _)).star (BlkH.good _ _ _)) (Looks.left (B := BlkH w.heap.size #[.int .i64 0, .int .i64 0, .int .i64 0, .bool false] 48) (Looks.right (A := MemH p ring cells (l ++ [ldAcc th 1 0 0 v])) (chkFar_any x ring hr2 fr hf rs last s v ⟨hv1, hv2⟩))) H2.out).mono ?_
  rw [hfar]
  rintro e w5 ⟨rfl, h5⟩
  have H5 := Lib.hid h5
  clear h5 H2
  go_wp2_with fail
  refine (Stp.lift (Lifts.left (B := BlkH w.heap.size #[.int .i64 0, .int .i64 0, .int .i64 0, .bool false] 48) GR.out (Lifts.right GM2.out (chkMoves_thr x ring fr rs last s))) (H5.out)).mono ?_
  rintro e w9 ⟨rfl, h9⟩
  have H9 := Lib.hid h9
  obtain ⟨r0, r1, r2, r3, rz⟩ := four_cells h9.has.right.blk
  clear h9
  unfold ansV
  go_wp2_with fail
  refine bodyPost_ret (v := _) (by simp [results, Try.results13, go_sem, r0, r1, r2, r3]; rfl) rfl ?_
  exact ⟨rfl, (((((H9.out).move (Moves.right (GM2.out.star (BlkH.good _ _ _)) (BlkH.set 0 _))).move (Moves.right (GM2.out.star (BlkH.good _ _ _)) (BlkH.set 1 _))).move (Moves.right (GM2.out.star (BlkH.good _ _ _)) (BlkH.set 2 _))).move (Moves.right (GM2.out.star (BlkH.good _ _ _)) (BlkH.set 3 _))).fst⟩
/-- The machine's numbers. -/
def KRng (s : CS) : Prop := (s.st = 0 ∨ s.st = 3) ∨ (s.st = 1 ∧ 1 ≤ s.sk ∧ s.sk ≤ 9223372036854775807) ∨ (s.st = 2 ∧ (0 ≤ s.sk ∧ s.seen ≤ 9223372036854775807) ∧ ∃ m : Nat, m < 8 ∧ s.word = m)
theorem chkStep_go (p x ring cells : Nat) (l : List Acc) (hlen : l.length ≤ 100000000000) (hr1 : 1 ≤ ring) (hr2 : ring ≤ 16) (fr : Int) (hf : 0 ≤ fr) (rs : Nat → Int) (hrs : Wds rs) (last : Bool) (s : CS) (th : Int) (hk : KRng s) (a b c : Int) (ha : addrK ring s = (a, b, c)) (v : Int) (hv : wordOf l a b c = v) (hvI : I64 v) (s' : CS) (kd er : Int) (hs : stepK ring fr rs last s v = (s', kd, er)) :
    Lifts Try.prog 13 #[.pointer (some ⟨x, 0, none⟩), .pointer (some ⟨p, 0, none⟩), .int .i64 th] (CStep p x ring cells l ring fr rs last s) (CStep p x ring cells (l ++ [ldAcc th a b c v]) ring fr rs last s') (.returned (ansV kd er 0 true)) := by
  subst hv
  rcases hk with (h0 | h0) | ⟨h0, h1, h2⟩ | ⟨h0, ⟨h1, h2⟩, m, hm, hw⟩
  · unfold addrK at ha
    rw [if_pos (.inl h0)] at ha
    obtain ⟨rfl, rfl, rfl⟩ : 1 = a ∧ 0 = b ∧ 0 = c := by simpa using ha
    unfold stepK at hs
    rw [if_pos h0] at hs
    refine chkStep_first p x ring cells l _ (CStep.good _ _ _ _ _ _ _ _ _ _) kd er fr rs last s th h0 ?_
    cases hz : zeroS rs with
    | true =>
      rw [if_pos (.inl hz)] at hs
      obtain ⟨rfl, rfl, rfl⟩ := by simpa using hs
      exact chkFirst_zero p x ring cells l hlen hr1 hr2 fr hf rs hrs last s th hvI hz
    | false =>
      by_cases ho : wordOf l 1 0 0 ≤ fr
      · rw [if_pos (.inr ho)] at hs
        obtain ⟨rfl, rfl, rfl⟩ := by simpa using hs
        exact chkFirst_old p x ring cells l hlen hr1 hr2 fr hf rs hrs last s th hvI hz ho
      · rw [if_neg (by rw [hz]; simp; omega)] at hs
        cases hfar : farB ring fr (wordOf l 1 0 0) with
        | true =>
          rw [if_pos hfar] at hs
          obtain ⟨rfl, rfl, rfl⟩ := by simpa using hs
          exact chkFirst_far p x ring cells l hlen hr1 hr2 fr hf rs hrs last s th hvI hz ho hfar
        | false =>
          rw [if_neg (by rw [hfar]; decide)] at hs
          obtain ⟨rfl, rfl, rfl⟩ := by simpa using hs
          exact chkFirst_on p x ring cells l hlen hr1 hr2 fr hf rs hrs last s th hvI hz ho hfar
  · unfold addrK at ha
    rw [if_pos (.inr h0)] at ha
    obtain ⟨rfl, rfl, rfl⟩ : 1 = a ∧ 0 = b ∧ 0 = c := by simpa using ha
    unfold stepK at hs
    rw [if_neg (by omega), if_neg (by omega), if_neg (by omega)] at hs
    cases hfar : farB ring fr (wordOf l 1 0 0) with
    | true =>
      rw [if_pos hfar] at hs
      obtain ⟨rfl, rfl, rfl⟩ := by simpa using hs
      exact chkStep_again1 p x ring cells l hlen hr1 hr2 fr rs last s th hf h0 hvI hfar
    | false =>
      rw [if_neg (by rw [hfar]; decide)] at hs
      obtain ⟨rfl, rfl, rfl⟩ := by simpa using hs
      exact chkStep_again0 p x ring cells l hlen hr1 hr2 fr rs last s th hf h0 hvI hfar
  · unfold addrK at ha
    rw [if_neg (by omega), if_pos h0] at ha
    obtain ⟨rfl, rfl, rfl⟩ : 2 = a ∧ slotZ s.sk ring = b ∧ 0 = c := by simpa using ha
    unfold stepK at hs
    rw [if_neg (by omega), if_pos h0] at hs
    refine chkStep_head p x ring cells l _ (CStep.good _ _ _ _ _ _ _ _ _ _) kd er fr rs last s th h0 ?_
    by_cases hc : wordOf l 2 (slotZ s.sk ring) 0 / 2 < s.sk
    · rw [if_pos hc] at hs
      obtain ⟨rfl, rfl, rfl⟩ := by simpa using hs
      exact chkHead_wait p x ring cells l hlen hr1 hr2 fr hf rs hrs last _ th hvI h1 h2 hc
    · rw [if_neg hc] at hs
      by_cases hg : s.sk < wordOf l 2 (slotZ s.sk ring) 0 / 2
      · rw [if_pos hg] at hs
        obtain ⟨rfl, rfl, rfl⟩ := by simpa using hs
        exact chkHead_over p x ring cells l hlen hr1 hr2 fr hf rs hrs last s th hvI h1 h2 hc hg
      · rw [if_neg hg] at hs
        have he : wordOf l 2 (slotZ s.sk ring) 0 / 2 = s.sk := by omega
        by_cases hd : wordOf l 2 (slotZ s.sk ring) 0 % 2 = 1
        · by_cases hst : s.start = s.sk - 1
          · rw [if_pos ⟨hd, hst⟩] at hs
            obtain ⟨rfl, rfl, rfl⟩ := by simpa using hs
            exact chkHead_more p x ring cells l hlen hr1 hr2 fr hf rs hrs last s th hvI h1 h2 he hd hst
          · rw [if_neg (fun h => hst h.2)] at hs
            obtain ⟨rfl, rfl, rfl⟩ := by simpa using hs
            exact chkHead_same p x ring cells l hlen hr1 hr2 fr hf rs hrs last s th hvI h1 h2 he hd hst
        · rw [if_neg (fun h => hd h.1)] at hs
          obtain ⟨rfl, rfl, rfl⟩ := by simpa using hs
          exact chkHead_raw p x ring cells l hlen hr1 hr2 fr hf rs hrs last s th hvI h1 h2 he hd
  · unfold addrK at ha
    rw [if_neg (by omega), if_neg (by omega)] at ha
    rw [hw] at ha
    obtain ⟨rfl, rfl, rfl⟩ : 3 = a ∧ slotZ s.sk ring = b ∧ (m : Int) = c := by simpa using ha
    unfold stepK at hs
    rw [if_neg (by omega), if_neg (by omega), if_pos h0] at hs
    rw [hw, Int.toNat_natCast] at hs
    by_cases hb : bits .and .u64 (IntKind.u64.wrap (wordOf l 3 (slotZ s.sk ring) m)) (rs m) ≠ 0
    · rw [if_pos hb] at hs
      obtain ⟨rfl, rfl, rfl⟩ := by simpa using hs
      have h := chkStep_conflict p x ring cells l hlen hr1 hr2 m hm fr rs last s th h0 hw hvI hb
      rwa [hw] at h
    · rw [if_neg hb] at hs
      have hb' : bits .and .u64 (IntKind.u64.wrap (wordOf l 3 (slotZ s.sk ring) m)) (rs m) = 0 := Classical.byContradiction hb
      by_cases hx : nextW rs (m + 1) < 8
      · rw [if_pos hx] at hs
        obtain ⟨rfl, rfl, rfl⟩ := by simpa using hs
        rw [h0]
        exact chkStep_next p x ring cells l hlen hr1 hr2 m hm fr rs last s th h0 hw hvI hb' hx
      · rw [if_neg hx] at hs
        by_cases hlt : s.sk < s.seen
        · rw [if_pos hlt] at hs
          obtain ⟨rfl, rfl, rfl⟩ := by simpa using hs
          exact chkStep_stamp p x ring cells l hlen hr1 hr2 m hm fr rs last s th h0 hw hvI hb' hx hlt h2 h1
        · rw [if_neg hlt] at hs
          cases hla : last with
          | true =>
            rw [if_pos hla] at hs
            obtain ⟨rfl, rfl, rfl⟩ := by simpa using hs
            subst hla
            exact chkStep_last p x ring cells l hlen hr1 hr2 m hm fr rs true s th h0 hw hvI hb' hx hlt rfl
          | false =>
            rw [if_neg (by rw [hla]; decide)] at hs
            obtain ⟨rfl, rfl, rfl⟩ := by simpa using hs
            subst hla
            exact chkStep_thr p x ring cells l hlen hr1 hr2 m hm fr rs false s th h0 hw hvI hb' hx hlt rfl
end Go.Proofs.Ytecbnialcnplkaa
