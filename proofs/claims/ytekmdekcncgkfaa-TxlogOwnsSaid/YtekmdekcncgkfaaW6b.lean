/- The walk of TxlogOwns. -/
import Derived.Test.YtekmdekcncgkfaaW6
namespace Go.Proofs.Ytekmdekcncgkfaa
open Go.RowKit
set_option linter.unusedVariables false
set_option maxHeartbeats 2000000 in
theorem txlogOwns_law {w : World} (m : Int) (wm : (Lit.int .i64 m).wf = true) (a : Option Addr) (len cap : Nat) (q : Nat → Nat → Int) (hg : Grid w a len 3 q) (hlc : len ≤ cap) (hcm : cap ≤ maxLen) (hq : ∀ i j, (Lit.int .i64 (q i j)).wf = true) :
    Calls Try.prog 6 #[.int .i64 m, .slice a len cap] w fun e w' => e = .returned (.bool true) ∧ Below w.heap.size w w' := by
  have HG := Lib.hid hg
  unfold maxLen at hcm
  clear wm hg hq
  by_cases hm : m < 1 ∨ 24 < m
  · have HM := Lib.hid hm
    clear hm
    go_enter Try.func6, Try.ntmps6
    go_wp2_with fail
    refine (logNew_bad m HM.out _).mono ?_; rintro e w1 ⟨rfl, rfl⟩
    go_wp2_with fail
    refine (rlogNew_bad m HM.out _).mono ?_; rintro e w1 ⟨rfl, rfl⟩
    go_wp2_with fail
    go_ret
    exact ⟨rfl, Below.refl _ _⟩
  · obtain ⟨n, rfl⟩ : ∃ n : Nat, m = n := ⟨m.toNat, by omega⟩
    have h1 : 1 ≤ n := by omega
    have h2 : n ≤ 24 := by omega
    clear hm
    go_enter Try.func6, Try.ntmps6
    go_wp2_with fail
    refine (logNew_any n h1 h2 _).mono ?_; rintro e w1 ⟨t, F, rfl, hT, hb1, hf1⟩
    have H1 := Lib.hid (And.intro hT (And.intro hb1 hf1))
    clear hT hb1 hf1
    go_wp2_with fail
    refine (rlogNew_any n h1 h2 _).mono ?_; rintro e w2 ⟨r, G, rfl, hR, hb2, hf2⟩
    have H2 : Hid (LPlaying w t r n w2) := lnew_both h1 h2 H1.out.1 H1.out.2.1 H1.out.2.2 hR hb2 hf2
    clear hR hb2 hf2 H1
    go_wp2_with fail
    go_loopw [9] (fun i wr => ∃ k : Nat, k ≤ len ∧ i = .int .i64 k ∧ Hid (LPlaying w t r n wr)) (fun i _ => len - (intOf i).toNat)
    case atStart => exact ⟨0, by omega, rfl, H2.out⟩
    case round =>
      obtain ⟨k, hk, rfl, HP⟩ := hrel
      by_cases hlt : k < len
      · obtain ⟨b, off, rfl, hbw, hcell⟩ := HG.out.resolve_left (by omega)
        have c0 := (HP.out.below.cell (p := ⟨b, off + k * 3 + 0, none⟩) hbw).trans (hcell k hlt 0 (by omega))
        have c1 := (HP.out.below.cell (p := ⟨b, off + k * 3 + 1, none⟩) hbw).trans (hcell k hlt 1 (by omega))
        have c2 := (HP.out.below.cell (p := ⟨b, off + k * 3 + 2, none⟩) hbw).trans (hcell k hlt 2 (by omega))
        simp only [Nat.add_zero] at c0
        generalize q k 0 = x0 at *
        generalize q k 1 = x1 at *
        generalize q k 2 = x2 at *
        clear hcell
        go_wp2_with fail
        refine (lone_goes HP.out x0 x1 x2).mono ?_; rintro e w3 ⟨rfl, hstep⟩
        have H3 := Lib.hid hstep
        clear hstep c0 c1 c2
        go_wp2_with fail
        go_roundw
        case rel => exact ⟨k + 1, by omega, by go_num, H3.out⟩
        case measure => simp [intOf]; omega
      · obtain rfl : k = len := by omega
        obtain ⟨wo, rfl⟩ : ∃ wo : World, wo = wr := ⟨_, rfl⟩
        obtain ⟨st, told, F, G, hI, hmo, hto, hB, hbe, hfe⟩ := HP.out
        have HN : Hid (st.rows.length ≤ 24) := Nat.le_trans hI.full hI.m2
        have HC := Lib.hid (logWrites_any st hI t F _ _ _ hB.1)
        clear hI hmo hto hB hbe hfe H2
        go_wp2_with fail
        refine HC.out.mono ?_
        rintro e w3 ⟨v1, rfl, ho1, hb⟩
        have H3 := Lib.hid hb
        generalize hNN : st.rows.length = N at *
        generalize rowCells st.rows = xs1 at *
        have hN := HN.out
        obtain ⟨a', c', rfl⟩ := ownAt_form ho1
        have HO := Lib.hid ho1
        clear ho1 hb HC hNN
        go_wp2_with fail
        go_loopw [11] (fun i wr => ∃ j : Nat, j ≤ N ∧ i = .int .i64 j ∧ Hid ((∃ xs, wr.ownsRow wo.heap.size 50 2 (.slice a' N c') N xs) ∧ Below wo.heap.size wo wr)) (fun i _ => N - (intOf i).toNat)
        case atStart => exact ⟨0, by omega, rfl, ⟨_, HO.out⟩, H3.out⟩
        case round =>
          obtain ⟨j, hj, rfl, HH⟩ := hrel
          by_cases hlt2 : j < N
          · obtain ⟨⟨xs, hx⟩, hbl⟩ := HH.out
            obtain ⟨g, cc, hv, hg1, hg2, hcell, hf, hset⟩ := own_parts hx (by omega)
            obtain ⟨rfl, rfl⟩ := slice_inj hv
            have hlx : xs.length = N * 2 := hx.1
            obtain ⟨u0, hu0⟩ : ∃ u, xs[j * 2]? = some u := ⟨_, List.getElem?_eq_getElem (by omega)⟩
            obtain ⟨u1, hu1⟩ : ∃ u, xs[j * 2 + 1]? = some u := ⟨_, List.getElem?_eq_getElem (by omega)⟩
            have e0 := (hcell (j * 2) (by omega)).trans hu0
            have e1 := (hcell (j * 2 + 1) (by omega)).trans hu1
            have HX1 := Lib.hid (hset (j * 2) (.int .i64 3) (by omega))
            have HBG := Lib.hid hg1
            clear hcell hset hx hbl hv hlx hu0 hu1 hg1
            go_wp2_with fail
            go_roundw
            case rel =>
              obtain ⟨g3, c3, hv3, _, _, _, _, hset3⟩ := own_parts HX1.out (by omega)
              obtain ⟨e3, _⟩ := slice_inj hv3
              obtain rfl : g = g3 := by simpa using e3
              obtain ⟨_, hbl⟩ := HH.out
              exact ⟨j + 1, by omega, by go_num, ⟨_, hset3 (j * 2 + 1) (.int .i64 77) (by omega)⟩, (hbl.setCell HBG.out _).setCell HBG.out _⟩
            case measure => simp [intOf]; omega
          · have HQ := Lib.hid (HP.out.calm HH.out.2)
            clear HH HO H3
            go_wp2_with fail
            refine (lall_goes HQ.out).mono ?_; rintro e w4 ⟨rfl, hstep⟩
            have H4 := Lib.hid hstep
            clear hstep
            go_wp2_with fail
            go_ret
            exact ⟨rfl, H4.out.below⟩
end Go.Proofs.Ytekmdekcncgkfaa
