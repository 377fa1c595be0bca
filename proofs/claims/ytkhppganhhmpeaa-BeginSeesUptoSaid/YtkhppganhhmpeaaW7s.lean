/- Layer 7: the walk of BeginSees. -/
import Derived.Test.YtkhppganhhmpeaaCGr
import Derived.Test.YtkhppganhhmpeaaW7
import Derived.Test.YtkhppganhhmpeaaSGb
import Derived.Test.YtkhppganhhmpeaaRT
import Derived.StillTailTactics
namespace Go.Proofs.Ytkhppganhhmpeaa
open Go.RowKit
set_option linter.unusedVariables false
abbrev SeesO (p gp x n : Nat) (l : List Acc) (g : GS) (st seen sk : Int) : HP := Star (MG p gp n 4 l g) (BegH x n st seen sk)
theorem SeesO.good (p gp x n : Nat) (l : List Acc) (g : GS) (st seen sk : Int) : Good (SeesO p gp x n l g st seen sk) := (MG.good _ _ _ _ _ _).star (BlkH.good _ _ _)
theorem sees_step {w0 wr : World} {p gp x n k : Nat} {l : List Acc} {g : GS} {least newest st seen sk : Int} (hn1 : 1 ≤ n) (hn2 : n ≤ 16) (h : AtW w0 (SeesO p gp x n l g st seen sk) wr) (ho : RingOk n 4 g l k) (hi : SeesInv n g least newest st seen sk) (h0 : st = 0 → least = g.done ∧ newest = g.es.length) (hk : k ≤ 10000000) :
    Calls Try.prog 13 #[.pointer (some ⟨x, 0, none⟩), .pointer (some ⟨p, 0, none⟩), .int .i64 1] wr fun e w' => ∃ kd bo l' st' seen' sk', e = .returned (ansV kd 0 0 bo) ∧ AtW w0 (SeesO p gp x n l' g st' seen' sk') w' ∧ RingOk n 4 g l' (k + 1) ∧ SeesInv n g least newest st' seen' sk' ∧ st' ≠ 0 := by
  by_cases h2 : st = 2
  · refine ((look_swap (B := GrowH gp n g) (begStep_none p x n 4 l n st seen sk 1 (.inr h2))).at (SeesO.good _ _ _ _ _ _ _ _ _) h).mono ?_
    rintro e w' ⟨rfl, h⟩
    exact ⟨0, false, l, st, seen, sk, rfl, h, ho.more, hi, by omega⟩
  · have hl := ho.len
    have hm := ho.many
    obtain ⟨s1, s2⟩ := SeesInv.step ho.inv hn1 hn2 hi h2 h0
    have hr : BRng st seen sk := by
      rcases hi with ⟨a, _, _⟩ | ⟨a, b, c, d, e, f, _⟩ | ⟨a, _⟩
      · exact .inl a
      · exact .inr ⟨a, d, e, by omega⟩
      · exact absurd a h2
    obtain ⟨⟨a, b, c⟩, ha⟩ : ∃ t, addrB n st sk = t := ⟨_, rfl⟩
    obtain ⟨v, hv⟩ : ∃ v, wordOf l a b c = v := ⟨_, rfl⟩
    obtain ⟨⟨st', seen', sk', kd⟩, hs⟩ : ∃ t, stepB n st seen sk v = t := ⟨_, rfl⟩
    rw [ha] at s1 s2
    simp only at s1 s2
    rw [hv, hs] at s1 s2
    simp only at s1 s2
    refine ((lift_swap (GrowH.good gp n g) (begStep_go p x n 4 l (by omega) st seen sk 1 hn1 hn2 hr a b c ha v hv st' seen' sk' kd hs)).at h).mono ?_
    rintro e w' ⟨rfl, h⟩
    exact ⟨kd, true, _, st', seen', sk', rfl, h, ho.ld _ _ _ _ _, s1, s2⟩
set_option maxHeartbeats 8000000 in
set_option maxRecDepth 100000 in
theorem beginSees_law {w : World} (raw : Int) (_hw : (Lit.int .i64 raw).wf = true) (a1 : Option Addr) (l1 c1 : Nat) (k1 : Nat → Int) (s1 : Nat → Option Addr × Nat × Nat) (q1 : Nat → Nat → Nat → Int) (ht1 : Turns w a1 l1 k1 s1 q1) (hb1 : l1 ≤ 1048576) :
    Calls Try.prog 4 #[.int .i64 raw, .slice a1 l1 c1] w fun e w' => e = .returned (.bool true) ∧ Below w.heap.size w w' := by
  have HT1 := Lib.hid ht1
  have hp := pickZ_range raw 16 (by decide)
  obtain ⟨n, hn⟩ : ∃ n : Nat, 1 + pickZ raw 16 = n := ⟨(1 + pickZ raw 16).toNat, by omega⟩
  have hn1 : 1 ≤ n := by omega
  have hn2 : n ≤ 16 := by omega
  have HP := Lib.hid (pick_any raw 16 (by decide) (by decide))
  generalize pickZ raw 16 = pz at *
  obtain rfl : pz = (n : Int) - 1 := by omega
  have e0 : (1 : Int) + ((n : Int) - 1) = n := by omega
  have HM := Lib.hid (memNew_any 4 n (by decide) (by decide) hn1 (by omega))
  have HBN := Lib.hid (begNew_any n (by omega) (by omega))
  clear ht1 hp hn
  go_enter Try.func4, Try.ntmps4
  go_wp2_with fail
  refine (shown7_any _).mono ?_; rintro e w1 ⟨rfl, hb⟩
  have B1 : Hid (Below w.heap.size w w1) := hb
  clear hb
  go_wp2_with fail
  refine (HP.out w1).mono ?_; rintro e w' ⟨rfl, rfl⟩
  go_wp2_with fail
  refine (HBN.out w1).mono ?_; rintro e w2 ⟨x, rfl, h⟩
  have H2 := Lib.hid h
  clear h
  go_wp2_with fail
  refine (HM.out w2).mono ?_; rintro e w3 ⟨p, rfl, h⟩
  have HA1 : Hid (AtW w1 (SeesO p w3.heap.size x n [] ⟨[], 0, 0⟩ 0 0 0) (w3.alloc (.cells #[.int .i64 n, .slice none 0 0, .int .i64 0, .int .i64 0] 47))) := (((H2.out.new (BlkH.good _ _ _) h).imp fun _ h => h.comm).new ((MemH.good _ _ _ _).star (BlkH.good _ _ _)) (grow_new w3 n)).imp fun _ h => h.swap
  clear h HM HP HBN H2
  go_wp2_with fail
  go_loopw [12, 13, 14, 15] (fun ls nw sp i wr => ∃ (k s : Nat) (least newest : Int), k ≤ l1 ∧ s ≤ k ∧ i = .int .i64 k ∧ sp = .int .i64 s ∧ ls = .int .i64 least ∧ nw = .int .i64 newest ∧ Hid (∃ l g st seen sk, AtW w1 (SeesO p w3.heap.size x n l g st seen sk) wr ∧ RingOk n 4 g l k ∧ SeesInv n g least newest st seen sk ∧ (st = 0 ↔ s = 0))) (fun _ _ _ i _ => l1 - (intOf i).toNat)
  case atStart => exact ⟨0, 0, 0, 0, by omega, by omega, rfl, rfl, rfl, rfl, [], ⟨[], 0, 0⟩, 0, 0, 0, HA1.out, RingOk.nil _ _, .inl ⟨rfl, rfl, rfl⟩, by simp⟩
  case round =>
    obtain ⟨k, s, least, newest, hk, hsk, rfl, rfl, rfl, rfl, HE⟩ := hrel
    clear HA1
    by_cases hlt : k < l1
    · obtain ⟨l, g, st, seen, sk, g1, g2, g3, g4⟩ := HE.out
      obtain ⟨b, off, rfl, t0, t1, hgr, hsl, hki, hq⟩ := turn_at HT1.out (B1.out.trans (g1.below.mono B1.out.size)) hlt
      by_cases hz : k1 k = 0
      · rw [hz] at t0
        obtain ⟨FG, hG⟩ := g1.has.left.right
        obtain ⟨la, lc, hR⟩ := hG.read
        obtain ⟨p0, p1, p2, p3, fz⟩ := four_cells hR.hp
        have HGOOD := Lib.hid (SeesO.good p w3.heap.size x n l g st seen sk)
        clear hgr hq hki HE hz hG hR
        by_cases hs0 : s = 0
        · subst hs0
          have hst : st = 0 := g4.2 rfl
          have hi0 : SeesInv n g g.done g.es.length st seen sk := by
            rcases g3 with h | h | h
            · exact .inl h
            · omega
            · omega
          have HST := Lib.hid (sees_step hn1 hn2 g1 g2 hi0 (fun _ => ⟨rfl, rfl⟩) (by omega))
          clear g1 g2 g3 g4 hi0 hst t1
          go_wp2_with fail
          refine HST.out.mono ?_; rintro e w5 ⟨kd, bo, l', st', seen', sk', rfl, m1, m2, m3, m4⟩
          have HGD := Lib.hid (SeesO.good p w3.heap.size x n l' g st' seen' sk')
          have M1 := Lib.hid m1
          have M2 := Lib.hid (And.intro m2 (And.intro m3 m4))
          clear m1 HST
          unfold ansV
          by_cases h2 : st' = 2
          · subst h2
            have hm : seen' = (g.es.length : Int) ∧ (g.done : Int) ≤ sk' ∧ sk' ≤ (g.done : Int) := by
              rcases m3 with h | h | h
              · omega
              · omega
              · exact h.2
            obtain ⟨hm1, hm2, hm3⟩ := hm
            have HSTA := Lib.hid ((Looks.right (A := MG p w3.heap.size n 4 l' g) (begStart_yes x n seen' sk')).at HGD.out M1.out)
            have hs1 : decide (sk' < (g.done : Int)) = false := by simp; omega
            have hs2 : decide ((g.done : Int) < sk') = false := by simp; omega
            have hs3 : (seen' != (g.es.length : Int)) = false := by simp; omega
            subst hm1
            clear m2 m3 m4 hm2 hm3 M1
            go_wp2_with fail
            refine HSTA.out.mono ?_; rintro e w6 ⟨rfl, h⟩
            obtain ⟨FG, hG⟩ := h.has.left.right
            obtain ⟨la, lc, hR⟩ := hG.read
            obtain ⟨p0, p1, p2, p3, fz⟩ := four_cells hR.hp
            have H6 := Lib.hid h
            clear h hG hR HSTA
            go_wp2_with fail
            go_roundw
            case rel => exact ⟨k + 1, 1, (g.done : Int), _, by omega, by omega, by go_num, by go_num, rfl, rfl, l', g, 2, _, sk', H6.out, M2.out.1, M2.out.2.1, by simp⟩
            case measure => simp [intOf]; omega
          · have HSTA := Lib.hid ((Looks.right (A := MG p w3.heap.size n 4 l' g) (begStart_no x n st' seen' sk' h2)).at HGD.out M1.out)
            have H4 : Hid (st' ≠ 0) := m4
            clear m2 m3 m4 M1 h2
            go_wp2_with fail
            refine HSTA.out.mono ?_; rintro e w6 ⟨rfl, h⟩
            have H6 := Lib.hid h
            clear h HSTA
            go_wp2_with fail
            go_roundw
            case rel => exact ⟨k + 1, 1, (g.done : Int), (g.es.length : Int), by omega, by omega, by go_num, by go_num, rfl, rfl, l', g, st', seen', sk', H6.out, M2.out.1, M2.out.2.1, by have := H4.out; omega⟩
            case measure => simp [intOf]; omega
        · have hs1 : ((s : Int) == 0) = false := by rw [beq_eq_false_iff_ne]; omega
          have hst : st ≠ 0 := fun h => hs0 (g4.1 h)
          have HST := Lib.hid (sees_step hn1 hn2 g1 g2 g3 (fun h => absurd h hst) (by omega))
          clear g1 g2 g3 g4 hst t1 p0 p1 p2 p3 fz hs0
          go_wp2_with fail
          refine HST.out.mono ?_; rintro e w5 ⟨kd, bo, l', st', seen', sk', rfl, m1, m2, m3, m4⟩
          have HGD := Lib.hid (SeesO.good p w3.heap.size x n l' g st' seen' sk')
          have M1 := Lib.hid m1
          have M2 := Lib.hid (And.intro m2 (And.intro m3 m4))
          clear m1 HST
          unfold ansV
          by_cases h2 : st' = 2
          · subst h2
            have hm : seen' = newest ∧ least ≤ sk' ∧ sk' ≤ (g.done : Int) := by
              rcases m3 with h | h | h
              · omega
              · omega
              · exact h.2
            obtain ⟨hm1, hm2, hm3⟩ := hm
            have HSTA := Lib.hid ((Looks.right (A := MG p w3.heap.size n 4 l' g) (begStart_yes x n seen' sk')).at HGD.out M1.out)
            have hs1 : decide (sk' < least) = false := by simp; omega
            have hs2 : decide ((g.done : Int) < sk') = false := by simp; omega
            have hs3 : (seen' != newest) = false := by simp; omega
            subst hm1
            clear m2 m3 m4 hm2 hm3 M1
            go_wp2_with fail
            refine HSTA.out.mono ?_; rintro e w6 ⟨rfl, h⟩
            obtain ⟨FG, hG⟩ := h.has.left.right
            obtain ⟨la, lc, hR⟩ := hG.read
            obtain ⟨p0, p1, p2, p3, fz⟩ := four_cells hR.hp
            have H6 := Lib.hid h
            clear h hG hR HSTA
            go_wp2_with fail
            go_roundw
            case rel => exact ⟨k + 1, s + 1, least, _, by omega, by omega, by go_num, by go_num, rfl, rfl, l', g, 2, _, sk', H6.out, M2.out.1, M2.out.2.1, by simp⟩
            case measure => simp [intOf]; omega
          · have HSTA := Lib.hid ((Looks.right (A := MG p w3.heap.size n 4 l' g) (begStart_no x n st' seen' sk' h2)).at HGD.out M1.out)
            have H4 : Hid (st' ≠ 0) := m4
            clear m2 m3 m4 M1 h2
            go_wp2_with fail
            refine HSTA.out.mono ?_; rintro e w6 ⟨rfl, h⟩
            have H6 := Lib.hid h
            clear h HSTA
            go_wp2_with fail
            go_roundw
            case rel => exact ⟨k + 1, s + 1, least, newest, by omega, by omega, by go_num, by go_num, rfl, rfl, l', g, st', seen', sk', H6.out, M2.out.1, M2.out.2.1, by have := H4.out; omega⟩
            case measure => simp [intOf]; omega
      · have hne : (k1 k != 0) = true := by simp [hz]
        have HQ := Lib.hid hq
        have G2 := Lib.hid g2
        have G3 := Lib.hid (And.intro g3 g4)
        have HACT := Lib.hid (fun kind => act_at2 (BlkH.good _ _ _) (g1.calm (SeesO.good _ _ _ _ _ _ _ _ _) ((Below.refl _ _).drew)) g2 hn1 hn2 (by decide) (by decide) (by omega) kind (s1 k).1 (s1 k).2.1 (s1 k).2.2 (q1 k) hsl (hgr.below ((Below.refl _ _).drew)))
        clear HE g1 g2 g3 g4 hgr hq hki
        go_wp2_with fail
        go_still_tail 13, (by kernel_rfl)
        change wpList _ _ _ _ _ wr.drew
        go_wp2_with fail
        refine (HACT.out _).mono ?_; rintro e w5 ⟨rfl, h⟩
        have H5 : Hid (∃ l g st seen sk, AtW w1 (SeesO p w3.heap.size x n l g st seen sk) w5 ∧ RingOk n 4 g l (k + 1) ∧ SeesInv n g least newest st seen sk ∧ (st = 0 ↔ s = 0)) := by
          obtain ⟨r1, r2, r3, r4⟩ := G2.out.act hn1 (by decide) (by omega) _ (q1 k) _ HQ.out
          exact ⟨_, _, st, seen, sk, h, r1, G3.out.1.mono r2.1 r3, G3.out.2⟩
        clear h HACT t0 t1 G2 G3
        go_wp2_with fail
        go_roundw
        case rel => exact ⟨k + 1, s, least, newest, by omega, by omega, by go_num, rfl, rfl, rfl, H5.out⟩
        case measure => simp [intOf]; omega
    · obtain rfl : k = l1 := by omega
      obtain ⟨l, g, st, seen, sk, g1, g2, g3, g4⟩ := HE.out
      go_wp2_with fail
      go_ret
      exact ⟨rfl, B1.out.trans (g1.below.mono B1.out.size)⟩
end Go.Proofs.Ytkhppganhhmpeaa
