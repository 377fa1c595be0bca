/- The walk of TxlogClears. -/
import Derived.Test.YtekmdekcncgkfaaW6
namespace Go.Proofs.Ytekmdekcncgkfaa
open Go.RowKit
set_option linter.unusedVariables false
set_option maxHeartbeats 2000000 in
theorem txlogClears_law {w : World} (m : Int) (wm : (Lit.int .i64 m).wf = true) (a : Option Addr) (len cap : Nat) (q : Nat → Nat → Int) (hg : Grid w a len 3 q) (hlc : len ≤ cap) (hcm : cap ≤ maxLen) (hq : ∀ i j, (Lit.int .i64 (q i j)).wf = true)
    (a2 : Option Addr) (len2 cap2 : Nat) (q2 : Nat → Nat → Int) (hg2 : Grid w a2 len2 3 q2) (hlc2 : len2 ≤ cap2) (hcm2 : cap2 ≤ maxLen) (hq2 : ∀ i j, (Lit.int .i64 (q2 i j)).wf = true) :
    Calls Try.prog 7 #[.int .i64 m, .slice a len cap, .slice a2 len2 cap2] w fun e w' => e = .returned (.bool true) ∧ Below w.heap.size w w' := by
  have HG := Lib.hid hg
  have HG2 := Lib.hid hg2
  unfold maxLen at hcm hcm2
  clear wm hg hq hg2 hq2
  by_cases hm : m < 1 ∨ 24 < m
  · have HM := Lib.hid hm
    clear hm
    go_enter Try.func7, Try.ntmps7
    go_wp2_with fail
    refine (logNew_bad m HM.out _).mono ?_; rintro e w1 ⟨rfl, rfl⟩
    go_wp2_with fail
    refine (rlogNew_bad m HM.out _).mono ?_; rintro e w1 ⟨rfl, rfl⟩
    go_wp2_with fail
    go_ret
    exact ⟨rfl, Below.refl _ _⟩
  · obtain ⟨n, rfl⟩ : ∃ n : Nat, m = n := ⟨m.toNat, by omega⟩
    have h1 : 1 ≤ n := by omega
    have h2 : n ≤ 24 := by omega
    clear hm
    go_enter Try.func7, Try.ntmps7
    go_wp2_with fail
    refine (logNew_any n h1 h2 _).mono ?_; rintro e w1 ⟨t, F, rfl, hT, hb1, hf1⟩
    have H1 := Lib.hid (And.intro hT (And.intro hb1 hf1))
    clear hT hb1 hf1
    go_wp2_with fail
    refine (rlogNew_any n h1 h2 _).mono ?_; rintro e w2 ⟨r0, G, rfl, hR, hb2, hf2⟩
    have H2 : Hid (LPlaying w t r0 n w2) := lnew_both h1 h2 H1.out.1 H1.out.2.1 H1.out.2.2 hR hb2 hf2
    clear hR hb2 hf2 H1
    go_wp2_with fail
    go_loopw [11] (fun i wr => ∃ k : Nat, k ≤ len ∧ i = .int .i64 k ∧ Hid (LPlaying w t r0 n wr)) (fun i _ => len - (intOf i).toNat)
    case atStart => exact ⟨0, by omega, rfl, H2.out⟩
    case round =>
      obtain ⟨k, hk, rfl, HP⟩ := hrel
      by_cases hlt : k < len
      · obtain ⟨b, off, rfl, hbw, hcell⟩ := HG.out.resolve_left (by omega)
        have c0 := (HP.out.below.cell (p := ⟨b, off + k * 3 + 0, none⟩) hbw).trans (hcell k hlt 0 (by omega))
        have c1 := (HP.out.below.cell (p := ⟨b, off + k * 3 + 1, none⟩) hbw).trans (hcell k hlt 1 (by omega))
        have c2 := (HP.out.below.cell (p := ⟨b, off + k * 3 + 2, none⟩) hbw).trans (hcell k hlt 2 (by omega))
        simp only [Nat.add_zero] at c0
        generalize q k 0 = x0 at *
        generalize q k 1 = x1 at *
        generalize q k 2 = x2 at *
        clear hcell
        go_wp2_with fail
        refine (lone_goes HP.out x0 x1 x2).mono ?_; rintro e w3 ⟨rfl, hstep⟩
        have H3 := Lib.hid hstep
        clear hstep c0 c1 c2
        go_wp2_with fail
        go_roundw
        case rel => exact ⟨k + 1, by omega, by go_num, H3.out⟩
        case measure => simp [intOf]; omega
      · obtain rfl : k = len := by omega
        obtain ⟨wo, rfl⟩ : ∃ wo : World, wo = wr := ⟨_, rfl⟩
        obtain ⟨st, told, F, G, hI, hmo, hto, hB, hbe, hfe⟩ := HP.out
        have HBE := Lib.hid (And.intro hbe hfe)
        have HC := Lib.hid (logClear_any st t F _ _ _ hB.1)
        rw [hmo] at HC
        clear hI hmo hto hB hbe hfe H2 HP
        go_wp2_with fail
        refine HC.out.mono ?_
        rintro e w3 ⟨rfl, F', hL, hch, hf'⟩
        have H3 : Hid (LogObj w3 t (newT n) noS noS F' ∧ Below w.heap.size w w3 ∧ ∀ b, F' b → w.heap.size ≤ b) := by
          have z := HBE.out.1.size
          refine ⟨hL, HBE.out.1.trans (hch.below (fun b hb => HBE.out.2 b (.inl hb)) z), fun b hb => ?_⟩
          rcases hf' b hb with h | h
          · exact HBE.out.2 b (.inl h)
          · omega
        clear hL hch hf' HC HBE
        go_wp2_with fail
        refine (rlogNew_any n h1 h2 _).mono ?_; rintro e w4 ⟨r, G2, rfl, hR, hb2, hf2⟩
        have H4 : Hid (LPlaying w t r n w4) := lnew_both h1 h2 H3.out.1 H3.out.2.1 H3.out.2.2 hR hb2 hf2
        clear hR hb2 hf2 H3
        go_wp2_with fail
        go_loopw [14, 15] (fun i _ wr => ∃ k : Nat, k ≤ len2 ∧ i = .int .i64 k ∧ Hid (LPlaying w t r n wr)) (fun i _ _ => len2 - (intOf i).toNat)
        case atStart => exact ⟨0, by omega, rfl, H4.out⟩
        case round =>
          obtain ⟨j, hj, rfl, HP⟩ := hrel
          by_cases hlt : j < len2
          · obtain ⟨b, off, rfl, hbw, hcell⟩ := HG2.out.resolve_left (by omega)
            have c0 := (HP.out.below.cell (p := ⟨b, off + j * 3 + 0, none⟩) hbw).trans (hcell j hlt 0 (by omega))
            have c1 := (HP.out.below.cell (p := ⟨b, off + j * 3 + 1, none⟩) hbw).trans (hcell j hlt 1 (by omega))
            have c2 := (HP.out.below.cell (p := ⟨b, off + j * 3 + 2, none⟩) hbw).trans (hcell j hlt 2 (by omega))
            simp only [Nat.add_zero] at c0
            generalize q2 j 0 = x0 at *
            generalize q2 j 1 = x1 at *
            generalize q2 j 2 = x2 at *
            clear hcell
            go_wp2_with fail
            refine (lone_goes HP.out x0 x1 x2).mono ?_; rintro e w5 ⟨rfl, hstep⟩
            have H5 := Lib.hid hstep
            clear hstep c0 c1 c2
            go_wp2_with fail
            go_roundw
            case rel => exact ⟨j + 1, by omega, by go_num, H5.out⟩
            case measure => simp [intOf]; omega
          · obtain rfl : j = len2 := by omega
            go_wp2_with fail
            refine (lall_goes HP.out).mono ?_; rintro e w5 ⟨rfl, hstep⟩
            have H5 := Lib.hid hstep
            clear hstep
            go_wp2_with fail
            go_ret
            exact ⟨rfl, H5.out.below⟩
end Go.Proofs.Ytekmdekcncgkfaa
