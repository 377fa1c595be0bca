/- Layer 7: the walk of BeginPlays. -/
import Derived.Test.YtkhppganhhmpeaaW7c
import Derived.Test.YtkhppganhhmpeaaRT
import Derived.Deep.RegionLaw
namespace Go.Proofs.Ytkhppganhhmpeaa
open Go.RowKit
set_option linter.unusedVariables false
theorem btakes_any (s : Int) (w : World) : Calls Try.prog 16 #[.int .i64 s] w fun e w' => e = .returned (.bool (decide (1 ≤ s ∧ s ≤ 16))) ∧ w = w' := by
  by_cases h1 : 1 ≤ s
  · by_cases h2 : s ≤ 16
    · go_enter Try.func16, Try.ntmps16
      go_wp2
      go_ret
      exact ⟨by congr 2; simp [h1, h2], rfl⟩
    · go_enter Try.func16, Try.ntmps16
      go_wp2
      go_ret
      exact ⟨by congr 2; simp; omega, rfl⟩
  · go_enter Try.func16, Try.ntmps16
    go_wp2
    go_ret
    exact ⟨by congr 2; simp; omega, rfl⟩
/-- The logs are compared. -/
theorem plays_logs {w wr : World} {p x r y ring size k : Nat} (h : PlaysAt w p x r y ring size k wr) (hk : k ≤ 2999999999000) :
    ∃ l lv, wr.cell? ⟨r, 2, none⟩ = some lv ∧ (∀ o, wr.frozen? ⟨r, o, none⟩ = false) ∧ Calls Try.prog 23 #[.pointer (some ⟨p, 0, none⟩), .int .i64 0] wr (LogGot wr l) ∧
      ∀ v w', w'.ownsRow 0 94 8 v l.length (accCells l) → Below wr.heap.size wr w' → Calls Try.prog 22 #[v, lv] w' fun e w2 => e = .returned (.bool true) ∧ Below w.heap.size w w2 := by
  obtain ⟨l, st, seen, sk, L, h1, h2, h3, h4, h5⟩ := h
  have hbel := h1.below
  obtain ⟨F, hM⟩ := h1.has.left.left
  obtain ⟨G, lv, g1, g2, g3, g4⟩ := h1.has.right.left
  obtain ⟨_, _, q2, qz⟩ := three_cells g1
  refine ⟨l, lv, q2, qz, log_any p ring 3 l (by omega) wr F hM, fun v w' hv hb => ?_⟩
  refine (accs_any v lv l (by omega) w' hv (own_calm g2 hb)).mono ?_
  rintro e w2 ⟨rfl, hb2⟩
  exact ⟨rfl, hbel.trans ((hb.trans (hb2.mono hb.size)).mono hbel.size)⟩
set_option maxHeartbeats 4000000 in
set_option maxRecDepth 100000 in
theorem beginPlays_law {w : World} (size : Int) (ws : (Lit.int .i64 size).wf = true) (ring : Int) (wrg : (Lit.int .i64 ring).wf = true) (a : Option Addr) (len cap : Nat) (q : Nat → Nat → Int) (hg : Grid w a len 6 q) (hlc : len ≤ cap) (hcm : cap ≤ maxLen) (hq : ∀ i j, (Lit.int .i64 (q i j)).wf = true) (hsmall : len ≤ 2932031007402) :
    Calls Try.prog 5 #[.int .i64 size, .int .i64 ring, .slice a len cap] w fun e w' => e = .returned (.bool true) ∧ Below w.heap.size w w' := by
  have HG := Lib.hid hg
  have HQ := Lib.hid hq
  unfold maxLen at hcm
  clear ws wrg hg hq
  by_cases hs : 1 ≤ size ∧ size ≤ 16
  · obtain ⟨n, rfl⟩ : ∃ n : Nat, size = n := ⟨size.toNat, by omega⟩
    have hn1 : 1 ≤ n := by omega
    have hn2 : n ≤ 16 := by omega
    have HT := Lib.hid (btakes_any n)
    rw [decide_eq_true hs] at HT
    have HB := Lib.hid (begNew_any n (by omega) (by omega))
    clear hs
    by_cases hr : (1 ≤ (3 : Int) ∧ (3 : Int) ≤ 1024) ∧ 1 ≤ ring ∧ ring ≤ 16
    · obtain ⟨m, rfl⟩ : ∃ m : Nat, ring = m := ⟨ring.toNat, by omega⟩
      have HT2 := Lib.hid (rtakes_any 3 m)
      rw [decide_eq_true hr] at HT2
      have HM := Lib.hid (memNew_any 3 m (by decide) (by decide) (by omega) (by omega))
      have HR := Lib.hid (rmemNew_any 3 m)
      clear hr
      go_enter Try.func5, Try.ntmps5
      go_wp2_with fail
      refine (shown7_any w).mono ?_; rintro e w1 ⟨rfl, hb⟩
      have B1 := Lib.hid hb
      clear hb
      go_wp2_with fail
      refine (HB.out w1).mono ?_; rintro e w2 ⟨x, rfl, h⟩
      have H2 := Lib.hid h
      clear h
      go_wp2_with fail
      refine (HT.out w2).mono ?_; rintro e w' ⟨rfl, rfl⟩
      go_wp2_with fail
      refine (HT2.out w2).mono ?_; rintro e w' ⟨rfl, rfl⟩
      go_wp2_with fail
      refine (HM.out w2).mono ?_; rintro e w3 ⟨p, rfl, h⟩
      have H3 : Hid (AtW w (BStep p x m 3 [] n 0 0 0) w3) := ((H2.out.new (BlkH.good _ _ _) h).up B1.out).imp (fun _ h => h.comm)
      clear h H2
      go_wp2_with fail
      refine (HR.out w3).mono ?_; rintro e w4 ⟨r, rfl, h⟩
      have H4 := Lib.hid (H3.out.new (BStep.good _ _ _ _ _ _ _ _ _) h)
      clear h H3
      have H5 : Hid (PlaysAt w p x r w4.heap.size m n 0 (w4.alloc (.cells #[.int .i64 n, .slice none 0 0] 60))) := ⟨[], 0, 0, 0, [], ((H4.out.new ((BStep.good _ _ _ _ _ _ _ _ _).star (RMemH.good _ _ _ _)) (LstH.new _ (fun lv => #[.int .i64 n, lv]) _ 2 rfl))).imp (fun _ h => h.assoc), Nat.zero_le _, okW_nil, .inl ⟨rfl, rfl, rfl, rfl⟩, fun z hz => by cases hz⟩
      clear H4 HM HR HT HT2 HB
      go_wp2_with fail
      generalize w4.heap.size = y at *
      go_loopw [16] (fun i wr => ∃ k : Nat, k ≤ len ∧ i = .int .i64 k ∧ Hid (PlaysAt w p x r y m n k wr)) (fun i _ => len - (intOf i).toNat)
      case atStart => exact ⟨0, by omega, rfl, H5.out⟩
      case round =>
        obtain ⟨k, hk, rfl, HE⟩ := hrel
        clear H5
        by_cases hlt : k < len
        · obtain ⟨b, off, rfl, hbw, hcell⟩ := HG.out.resolve_left (by omega)
          have hbel := HE.out.below
          have c0 := (hbel.cell (p := ⟨b, off + k * 6 + 0, none⟩) hbw).trans (hcell k hlt 0 (by omega))
          simp only [Nat.add_zero] at c0
          by_cases h1 : q k 0 = 1
          · rw [h1] at c0
            have c2 := (hbel.cell (p := ⟨b, off + k * 6 + 2, none⟩) hbw).trans (hcell k hlt 2 (by omega))
            have c3 := (hbel.cell (p := ⟨b, off + k * 6 + 3, none⟩) hbw).trans (hcell k hlt 3 (by omega))
            have c4 := (hbel.cell (p := ⟨b, off + k * 6 + 4, none⟩) hbw).trans (hcell k hlt 4 (by omega))
            have c5 := (hbel.cell (p := ⟨b, off + k * 6 + 5, none⟩) hbw).trans (hcell k hlt 5 (by omega))
            have HX := Lib.hid (plays_store1 (HE.out.calm ((Below.refl _ _).drew)) (by omega) (-1) (q k 2) (q k 3) (q k 4) (q k 5))
            go_wp2_with fail
            go_still_tail 11, (by kernel_rfl)
            change wpList _ _ _ _ _ wr.drew
            go_wp2_with fail
            refine HX.out.mono ?_; rintro e w5 ⟨⟨z, rfl⟩, h⟩
            have H5 := Lib.hid h
            have hbel5 := h.below
            clear h HX c0 c2 c3 c4 c5 hbel
            have c2 := (hbel5.cell (p := ⟨b, off + k * 6 + 2, none⟩) hbw).trans (hcell k hlt 2 (by omega))
            have c3 := (hbel5.cell (p := ⟨b, off + k * 6 + 3, none⟩) hbw).trans (hcell k hlt 3 (by omega))
            have c4 := (hbel5.cell (p := ⟨b, off + k * 6 + 4, none⟩) hbw).trans (hcell k hlt 4 (by omega))
            have c5 := (hbel5.cell (p := ⟨b, off + k * 6 + 5, none⟩) hbw).trans (hcell k hlt 5 (by omega))
            have HX := Lib.hid (plays_store2 (H5.out.calm ((Below.refl _ _).drew)) (by omega) (I64.of_wf (HQ.out k 5)))
            clear hcell hbel5 H5
            go_wp2_with fail
            go_still_tail 11, (by kernel_rfl)
            change wpList _ _ _ _ _ w5.drew
            go_wp2_with fail
            refine HX.out.mono ?_; rintro e w6 ⟨⟨z, rfl⟩, h⟩
            have H6 := Lib.hid h
            clear h HX c2 c3 c4 c5
            go_wp2_with fail
            go_roundw
            case rel => exact ⟨k + 1, by omega, by go_num, H6.out⟩
            case measure => simp [intOf]; omega
          · have e1 : (q k 0 == 1) = false := by simp [h1]
            by_cases h2 : q k 0 = 2
            · rw [h2] at c0
              have c1 := (hbel.cell (p := ⟨b, off + k * 6 + 1, none⟩) hbw).trans (hcell k hlt 1 (by omega))
              have HX := Lib.hid (plays_step1 hn1 hn2 HE.out (by omega) (q k 1))
              clear e1 h1 h2
              go_wp2_with fail
              refine HX.out.mono ?_; rintro e w5 ⟨kd, bb, rfl, hkd, h⟩
              have hbel5 := h.below
              have H5 := Lib.hid (h.box #[.int .i64 kd, .int .i64 0, .int .i64 0, .bool bb] 38)
              have c1' := (hbel5.cell (p := ⟨b, off + k * 6 + 1, none⟩) hbw).trans (hcell k hlt 1 (by omega))
              have hb5 : b < w5.heap.size := Nat.lt_of_lt_of_le hbw hbel5.size
              clear h HX c0 c1 hbel hbel5
              unfold ansV
              go_wp2_with fail
              refine (plays_step2 hn1 hn2 (BlkH.good _ _ _) H5.out (by omega)).mono ?_; rintro e w6 ⟨rfl, h, hbx⟩
              have H6 := Lib.hid h
              obtain ⟨d0, d1, d2, d3, _⟩ := four_cells hbx.blk
              clear h hbx H5 c1' hb5 hcell
              rcases hkd with ⟨rfl, rfl⟩ | ⟨rfl, rfl⟩ | ⟨rfl, rfl⟩
              · go_wp2_with fail
                go_roundw
                case rel => exact ⟨k + 1, by omega, by go_num, H6.out⟩
                case measure => simp [intOf]; omega
              · go_wp2_with fail
                go_roundw
                case rel => exact ⟨k + 1, by omega, by go_num, H6.out⟩
                case measure => simp [intOf]; omega
              · go_wp2_with fail
                go_roundw
                case rel => exact ⟨k + 1, by omega, by go_num, H6.out⟩
                case measure => simp [intOf]; omega
            · have e2 : (q k 0 == 2) = false := by simp [h2]
              by_cases h3 : q k 0 = 3
              · have e3 : (q k 0 == 3) = true := by simp [h3]
                clear h1 h2 h3 hcell
                go_wp2_with fail
                refine (plays_starts hn1 hn2 HE.out).mono ?_; rintro e w5 ⟨rfl, h⟩
                have H6 := Lib.hid h.up
                clear h
                go_wp2_with fail
                go_roundw
                case rel => exact ⟨k + 1, by omega, by go_num, H6.out⟩
                case measure => simp [intOf]; omega
              · have e3 : (q k 0 == 3) = false := by simp [h3]
                have H6 := Lib.hid HE.out.up
                clear h1 h2 h3 hcell
                go_wp2_with fail
                go_roundw
                case rel => exact ⟨k + 1, by omega, by go_num, H6.out⟩
                case measure => simp [intOf]; omega
        · obtain rfl : k = len := by omega
          go_wp2_with fail
          refine (plays_starts hn1 hn2 HE.out).mono ?_; rintro e w5 ⟨rfl, h⟩
          have H5 := Lib.hid (h.calm ((Below.refl _ _).drew))
          clear h HE
          obtain ⟨l, lv, q2, qz, HLG, HAC⟩ := plays_logs H5.out (by omega)
          have HLG := Lib.hid HLG
          have HAC := Lib.hid HAC
          have hrl : r < w5.drew.heap.size := World.block_lt_of_cell? _ _ q2
          go_wp2_with fail
          go_region_law (first | (go_simp; go_at_call 23; refine HLG.out.mono ?_; rintro e wl ⟨v, rfl, hv, hb⟩; have ql := (hb.cell (p := ⟨r, 2, none⟩) hrl).trans q2) | (go_simp; go_at_call 22; refine (HAC.out _ _ hv hb).mono ?_; rintro e w7 ⟨rfl, h7⟩))
          all_goals
            have H7 := Lib.hid h7
            clear h7 hv hb ql
            go_wp2_with fail
            go_ret
            exact ⟨rfl, H7.out⟩
    · have HT2 := Lib.hid (rtakes_any 3 ring)
      rw [decide_eq_false hr] at HT2
      clear hr
      go_enter Try.func5, Try.ntmps5
      go_wp2_with fail
      refine (shown7_any w).mono ?_; rintro e w1 ⟨rfl, hb⟩
      have B1 := Lib.hid hb
      clear hb
      go_wp2_with fail
      refine (HB.out w1).mono ?_; rintro e w2 ⟨x, rfl, h⟩
      have H2 := Lib.hid (h.up B1.out).below
      clear h
      go_wp2_with fail
      refine (HT.out w2).mono ?_; rintro e w' ⟨rfl, rfl⟩
      go_wp2_with fail
      refine (HT2.out w2).mono ?_; rintro e w' ⟨rfl, rfl⟩
      go_wp2_with fail
      go_ret
      exact ⟨rfl, H2.out⟩
  · have HT := Lib.hid (btakes_any size)
    rw [decide_eq_false hs] at HT
    have HB := Lib.hid (begNew_bad size hs)
    clear hs
    go_enter Try.func5, Try.ntmps5
    go_wp2_with fail
    refine (shown7_any w).mono ?_; rintro e w1 ⟨rfl, hb⟩
    have B1 := Lib.hid hb
    clear hb
    go_wp2_with fail
    refine (HB.out w1).mono ?_; rintro e w' ⟨rfl, rfl⟩
    go_wp2_with fail
    refine (HT.out w1).mono ?_; rintro e w' ⟨rfl, rfl⟩
    go_wp2_with fail
    go_ret
    exact ⟨rfl, B1.out⟩
end Go.Proofs.Ytkhppganhhmpeaa
