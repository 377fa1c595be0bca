/- The walk of TableClears. -/
import Derived.Test.YtgaaghpcnkcjcaaW5
namespace Go.Proofs.Ytgaaghpcnkcjcaa
open Go.RowKit
set_option linter.unusedVariables false
/-- The invariant of the loops that put into the program's table alone. -/
def Putting (w : World) (t m : Nat) (wr : World) : Prop := ∃ st F, Inv st ∧ st.most = m ∧ TabObj wr t st F ∧ Below w.heap.size w wr ∧ ∀ b, F b → w.heap.size ≤ b
theorem Putting.step {w wr wr' w' : World} {t m : Nat} {st : TS} {F : Nat → Prop} {c v x : Int} {e : Ending} (hI : Inv st) (hm : st.most = m) (hb : Below w.heap.size w wr) (hb2 : Below wr.heap.size wr wr') (hf : ∀ b, F b → w.heap.size ≤ b)
    (h : TabPut wr' t F (putT st c v) x e w') : e = .returned (.int .i64 x) ∧ Putting w t m w' := by
  obtain ⟨he, F', hT, hC, h1⟩ := h
  have z := hb.size
  have z2 := hb2.size
  refine ⟨he, _, F', putT_inv hI c v, (putT_most _ _ _).trans hm, hT, (hb.trans (hb2.mono z)).trans (hC.below hf (by omega)), fun b h => ?_⟩
  rcases h1 b h with h | h
  · exact hf b h
  · omega
set_option maxHeartbeats 4000000 in
theorem tableClears_law {w : World} (m : Int) (wm : (Lit.int .i64 m).wf = true) (a : Option Addr) (len cap : Nat) (q : Nat → Nat → Int) (hg : Grid w a len 2 q) (hlc : len ≤ cap) (hcm : cap ≤ maxLen) (hq : ∀ i j, (Lit.int .i64 (q i j)).wf = true)
    (a2 : Option Addr) (len2 cap2 : Nat) (q2 : Nat → Nat → Int) (hg2 : Grid w a2 len2 3 q2) (hlc2 : len2 ≤ cap2) (hcm2 : cap2 ≤ maxLen) (hq2 : ∀ i j, (Lit.int .i64 (q2 i j)).wf = true) :
    Calls Try.prog 9 #[.int .i64 m, .slice a len cap, .slice a2 len2 cap2] w fun e w' => e = .returned (.bool true) ∧ Below w.heap.size w w' := by
  have HG := Lib.hid hg
  have HG2 := Lib.hid hg2
  unfold maxLen at hcm hcm2
  clear wm hg hq hg2 hq2
  by_cases hm : m < 1 ∨ 24 < m
  · have HM := Lib.hid hm
    rcases hm with hm | hm
    · go_enter Try.func9, Try.ntmps9
      go_wp2_with fail
      refine (tabNew_bad m HM.out _).mono ?_; rintro e w1 ⟨rfl, rfl⟩
      go_wp2_with fail
      go_ret
      exact ⟨rfl, Below.refl _ _⟩
    · have hm0 : ¬ m < 1 := by omega
      have hmd : decide (m < 1) = false := by simpa using hm0
      go_enter Try.func9, Try.ntmps9
      go_wp2_with fail
      refine (tabNew_bad m HM.out _).mono ?_; rintro e w1 ⟨rfl, rfl⟩
      go_wp2_with fail
      go_ret
      exact ⟨by simp, Below.refl _ _⟩
  · obtain ⟨n, rfl⟩ : ∃ n : Nat, m = n := ⟨m.toNat, by omega⟩
    have h1 : 1 ≤ n := by omega
    have h2 : n ≤ 24 := by omega
    clear hm
    go_enter Try.func9, Try.ntmps9
    go_wp2_with fail
    refine (tabNew_any n h1 h2 _).mono ?_; rintro e w1 ⟨t, F, rfl, hT, hb1, hf1⟩
    have H1 : Hid (Putting w t n w1) := ⟨_, F, newT_inv n h1 h2, rfl, hT, hb1, hf1⟩
    clear hT hb1 hf1
    go_wp2_with fail
    go_loopw [9] (fun i wr => ∃ k : Nat, k ≤ len ∧ i = .int .i64 k ∧ Hid (Putting w t n wr)) (fun i _ => len - (intOf i).toNat)
    case atStart => exact ⟨0, by omega, rfl, H1.out⟩
    case round =>
      obtain ⟨k, hk, rfl, HP⟩ := hrel
      obtain ⟨st, F, hI, hmo, hT, hb, hf⟩ := HP.out
      have HI := Lib.hid hI
      have HMO := Lib.hid hmo
      have HT := Lib.hid hT
      have HBL := Lib.hid (And.intro hb hf)
      clear hI hmo hT hb hf
      by_cases hlt : k < len
      · obtain ⟨b, off, rfl, hbw, hcell⟩ := HG.out.resolve_left (by omega)
        have c0 := (HBL.out.1.cell (p := ⟨b, off + k * 2 + 0, none⟩) hbw).trans (hcell k hlt 0 (by omega))
        have c1 := (HBL.out.1.cell (p := ⟨b, off + k * 2 + 1, none⟩) hbw).trans (hcell k hlt 1 (by omega))
        simp only [Nat.add_zero] at c0
        generalize q k 0 = x0 at *
        generalize q k 1 = x1 at *
        clear hcell
        obtain ⟨y, HY⟩ : ∃ y, Hid (putE st x0 = y) := ⟨_, rfl⟩
        go_wp2_with fail
        go_still_tail 11, (by kernel_rfl)
        change wpList _ _ _ _ _ wr.drew
        go_wp2_with fail
        refine (tabPut_any st HI.out t F _ (HT.out.calm (Below.drew (Below.refl _ _))) x0 x1).mono ?_
        rw [HY.out]
        intro e w3 hput
        obtain ⟨rfl, hP3⟩ := Putting.step HI.out HMO.out HBL.out.1 (Below.drew (Below.refl _ _)) HBL.out.2 hput
        have H3 := Lib.hid hP3
        clear hput hP3 c0 c1
        go_wp2_with fail
        go_roundw
        case rel => exact ⟨k + 1, by omega, by go_num, H3.out⟩
        case measure => simp [intOf]; omega
      · obtain rfl : k = len := by omega
        obtain ⟨wo, rfl⟩ : ∃ wo : World, wo = wr := ⟨_, rfl⟩
        go_wp2_with fail
        refine (clear_obj st t F _ HT.out).mono ?_
        rw [HMO.out]
        rintro e w2 ⟨rfl, F2, hT2, hC2, hf2⟩
        have HT2 : Hid (TabObj w2 t (newT n) F2 ∧ Below w.heap.size w w2 ∧ ∀ b, F2 b → w.heap.size ≤ b) :=
          ⟨hT2, HBL.out.1.trans (hC2.below HBL.out.2 HBL.out.1.size), fun b hb => (hf2 b hb).elim (HBL.out.2 b) (fun h => by have := HBL.out.1.size; omega)⟩
        clear hT2 hC2 hf2
        go_wp2_with fail
        refine (refNew_any n h1 h2 _).mono ?_; rintro e w3 ⟨r, G, rfl, hR, hb2, hf2⟩
        have H2 : Hid (Playing w t r w3) := by
          obtain ⟨h1', h2', h3'⟩ := new_both HT2.out.1 HT2.out.2.1 HT2.out.2.2 hR hb2 hf2
          exact ⟨_, F2, G, newT_inv n h1 h2, h1', h2', h3'⟩
        clear hR hb2 hf2 HT2 HT HBL HP
        go_wp2_with fail
        go_loopw [12, 13] (fun i _ wr => ∃ k : Nat, k ≤ len2 ∧ i = .int .i64 k ∧ Hid (Playing w t r wr)) (fun i _ _ => len2 - (intOf i).toNat)
        case atStart => exact ⟨0, by omega, rfl, H2.out⟩
        case round =>
          obtain ⟨j, hj, rfl, HP⟩ := hrel
          obtain ⟨st, F, G, hI, hB, hb, hf⟩ := HP.out
          have HI := Lib.hid hI
          have HB := Lib.hid hB
          have HBL := Lib.hid (And.intro hb hf)
          clear hI hB hb hf
          by_cases hlt : j < len2
          · obtain ⟨b, off, rfl, hbw, hcell⟩ := HG2.out.resolve_left (by omega)
            have c0 := (HBL.out.1.cell (p := ⟨b, off + j * 3 + 0, none⟩) hbw).trans (hcell j hlt 0 (by omega))
            have c1 := (HBL.out.1.cell (p := ⟨b, off + j * 3 + 1, none⟩) hbw).trans (hcell j hlt 1 (by omega))
            have c2 := (HBL.out.1.cell (p := ⟨b, off + j * 3 + 2, none⟩) hbw).trans (hcell j hlt 2 (by omega))
            simp only [Nat.add_zero] at c0
            generalize q2 j 0 = x0 at *
            generalize q2 j 1 = x1 at *
            generalize q2 j 2 = x2 at *
            clear hcell
            go_wp2_with fail
            refine (one_any st HI.out t r F G _ HB.out x0 x1 x2).mono ?_; rintro e w4 ⟨rfl, hstep⟩
            have H3 := Lib.hid (Playing.step (stepT_inv HI.out x0 x1 x2) HBL.out.1 HBL.out.2 hstep)
            clear hstep c0 c1 c2
            go_wp2_with fail
            go_roundw
            case rel => exact ⟨j + 1, by omega, by go_num, H3.out⟩
            case measure => simp [intOf]; omega
          · obtain rfl : j = len2 := by omega
            go_wp2_with fail
            refine (tabSlots_obj st HI.out t F _ HB.out.1).mono ?_
            rintro e w6 ⟨v3, rfl, ho1, hb⟩
            have HO1 := Lib.hid (own_zero ho1)
            have H6 := Lib.hid hb
            clear ho1 hb
            go_wp2_with fail
            refine (refSlots_obj st HI.out r G _ (HB.out.2.1.calm H6.out)).mono ?_
            rintro e w7 ⟨v4, rfl, ho2, hb⟩
            have HO2 := Lib.hid (own_zero ho2)
            have HO3 := Lib.hid (own_calm HO1.out hb)
            have H7 : Hid (Below wr.heap.size wr w7) := H6.out.trans (hb.mono H6.out.size)
            clear ho2 hb
            go_wp2_with fail
            refine (sameInts_any v3 v4 (slotsC st) (slotsC st) _ HO3.out HO2.out).mono ?_
            rintro e w8 ⟨rfl, hb⟩
            have H8 : Hid (Below wr.heap.size wr w8) := H7.out.trans (hb.mono H7.out.size)
            clear hb
            go_wp2_with fail
            go_ret
            exact ⟨ret_bool (by simp), HBL.out.1.trans (H8.out.mono HBL.out.1.size)⟩
end Go.Proofs.Ytgaaghpcnkcjcaa
