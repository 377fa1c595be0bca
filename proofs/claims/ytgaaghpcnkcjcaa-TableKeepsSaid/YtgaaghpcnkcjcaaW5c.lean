/- The walk of TableApart. -/
import Derived.Test.YtgaaghpcnkcjcaaW5b
namespace Go.Proofs.Ytgaaghpcnkcjcaa
open Go.RowKit
set_option linter.unusedVariables false
theorem BothStep.below {w wr w' : World} {t r : Nat} {F G : Nat → Prop} {st : TS} (h : BothStep wr t r F G st w') (hb : Below w.heap.size w wr) (hf : ∀ b, F b ∨ G b → w.heap.size ≤ b) : Below w.heap.size w w' := by
  obtain ⟨F', G', hB, hC, h1, h2⟩ := h
  exact hb.trans (hC.below hf hb.size)
/-- Two pairs of tables, in blocks of their own. -/
def Four (w : World) (t r u q : Nat) (wr : World) : Prop :=
  ∃ s1 F G s2 F2 G2, Inv s1 ∧ Inv s2 ∧ Both wr t r s1 F G ∧ Both wr u q s2 F2 G2 ∧ Below w.heap.size w wr ∧ (∀ b, F b ∨ G b → w.heap.size ≤ b) ∧ (∀ b, F2 b ∨ G2 b → w.heap.size ≤ b) ∧ ∀ b, F b ∨ G b → ¬ (F2 b ∨ G2 b)
theorem Both.lt {w : World} {t r : Nat} {st : TS} {F G : Nat → Prop} (h : Both w t r st F G) {b : Nat} (hb : F b ∨ G b) : b < w.heap.size := hb.elim (fun h1 => h.1.lt h1) (fun h1 => h.2.1.lt h1)
theorem Both.chg {S : Nat → Prop} {w w' : World} {t r : Nat} {st : TS} {F G : Nat → Prop} (h : Both w t r st F G) (hc : Chg S w w') (hS : ∀ b, F b ∨ G b → ¬ S b) : Both w' t r st F G :=
  ⟨h.1.chg hc (fun b hb => hS b (.inl hb)), h.2.1.chg hc (fun b hb => hS b (.inr hb)), h.2.2⟩
theorem Four.step1 {w wr w' : World} {t r u q : Nat} {s1' s2 : TS} {F G F2 G2 : Nat → Prop} (hI1 : Inv s1') (hI2 : Inv s2) (hB2 : Both wr u q s2 F2 G2) (hb : Below w.heap.size w wr) (hf : ∀ b, F b ∨ G b → w.heap.size ≤ b) (hf2 : ∀ b, F2 b ∨ G2 b → w.heap.size ≤ b)
    (hd : ∀ b, F b ∨ G b → ¬ (F2 b ∨ G2 b)) (h : BothStep wr t r F G s1' w') : Four w t r u q w' := by
  have hbel := h.below hb hf
  obtain ⟨F', G', hB, hC, h1, h2⟩ := h
  have z := hb.size
  refine ⟨s1', F', G', s2, F2, G2, hI1, hI2, hB, hB2.chg hC (fun b hb2 hb1 => hd b hb1 hb2), hbel, ?_, hf2, ?_⟩
  · rintro b (h | h)
    · exact (h1 b h).elim (fun h => hf b (.inl h)) (fun h => by omega)
    · exact (h2 b h).elim (fun h => hf b (.inr h)) (fun h => by omega)
  · rintro b (h | h) h2'
    · exact (h1 b h).elim (fun h => hd b (.inl h) h2') (fun h => by have := hB2.lt h2'; omega)
    · exact (h2 b h).elim (fun h => hd b (.inr h) h2') (fun h => by have := hB2.lt h2'; omega)
theorem Four.swap {w wr : World} {t r u q : Nat} (h : Four w t r u q wr) : Four w u q t r wr := by
  obtain ⟨s1, F, G, s2, F2, G2, a, b, c, d, e, f, g, i⟩ := h
  exact ⟨s2, F2, G2, s1, F, G, b, a, d, c, e, g, f, fun b h1 h2 => i b h2 h1⟩
set_option maxHeartbeats 8000000 in
theorem tableApart_law {w : World} (m : Int) (wm : (Lit.int .i64 m).wf = true) (a : Option Addr) (len cap : Nat) (q : Nat → Nat → Int) (hg : Grid w a len 3 q) (hlc : len ≤ cap) (hcm : cap ≤ maxLen) (hq : ∀ i j, (Lit.int .i64 (q i j)).wf = true)
    (m2 : Int) (wm2 : (Lit.int .i64 m2).wf = true) :
    Calls Try.prog 8 #[.int .i64 m, .slice a len cap, .int .i64 m2] w fun e w' => e = .returned (.bool true) ∧ Below w.heap.size w w' := by
  have HG := Lib.hid hg
  unfold maxLen at hcm
  clear wm wm2 hg hq
  by_cases hm : m < 1 ∨ 24 < m
  · have HM := Lib.hid hm
    clear hm
    by_cases hm2 : m2 < 1 ∨ 24 < m2
    · have HM2 := Lib.hid hm2
      clear hm2
      go_enter Try.func8, Try.ntmps8
      go_wp2_with fail
      refine (tabNew_bad m HM.out _).mono ?_; rintro e w1 ⟨rfl, rfl⟩
      go_wp2_with fail
      refine (tabNew_bad m2 HM2.out _).mono ?_; rintro e w1 ⟨rfl, rfl⟩
      go_wp2_with fail
      go_ret
      exact ⟨rfl, Below.refl _ _⟩
    · obtain ⟨n2, rfl⟩ : ∃ n : Nat, m2 = n := ⟨m2.toNat, by omega⟩
      have h21 : 1 ≤ n2 := by omega
      have h22 : n2 ≤ 24 := by omega
      clear hm2
      go_enter Try.func8, Try.ntmps8
      go_wp2_with fail
      refine (tabNew_bad m HM.out _).mono ?_; rintro e w1 ⟨rfl, rfl⟩
      go_wp2_with fail
      refine (tabNew_any n2 h21 h22 _).mono ?_; rintro e w1 ⟨t, F, rfl, hT, hb1, hf1⟩
      have H1 := Lib.hid hb1
      clear hT hb1 hf1
      go_wp2_with fail
      go_ret
      exact ⟨rfl, H1.out⟩
  · obtain ⟨n, rfl⟩ : ∃ n : Nat, m = n := ⟨m.toNat, by omega⟩
    have h1 : 1 ≤ n := by omega
    have h2 : n ≤ 24 := by omega
    clear hm
    by_cases hm2 : m2 < 1 ∨ 24 < m2
    · have HM2 := Lib.hid hm2
      clear hm2
      go_enter Try.func8, Try.ntmps8
      go_wp2_with fail
      refine (tabNew_any n h1 h2 _).mono ?_; rintro e w1 ⟨t, F, rfl, hT, hb1, hf1⟩
      have H1 := Lib.hid hb1
      clear hT hb1 hf1
      go_wp2_with fail
      refine (tabNew_bad m2 HM2.out _).mono ?_; rintro e w2 ⟨rfl, rfl⟩
      go_wp2_with fail
      go_ret
      exact ⟨rfl, H1.out⟩
    · obtain ⟨n2, rfl⟩ : ∃ n : Nat, m2 = n := ⟨m2.toNat, by omega⟩
      have h21 : 1 ≤ n2 := by omega
      have h22 : n2 ≤ 24 := by omega
      clear hm2
      go_enter Try.func8, Try.ntmps8
      go_wp2_with fail
      refine (tabNew_any n h1 h2 _).mono ?_; rintro e w1 ⟨t, F, rfl, hT, hb1, hf1⟩
      have H1 := Lib.hid (And.intro hT (And.intro hb1 hf1))
      clear hT hb1 hf1
      go_wp2_with fail
      refine (tabNew_any n2 h21 h22 _).mono ?_; rintro e w2 ⟨u, F2, rfl, hT, hb1, hf1⟩
      have H2 := Lib.hid (And.intro hT (And.intro hb1 hf1))
      clear hT hb1 hf1
      go_wp2_with fail
      refine (refNew_any n h1 h2 _).mono ?_; rintro e w3 ⟨r, G, rfl, hT, hb1, hf1⟩
      have H3 := Lib.hid (And.intro hT (And.intro hb1 hf1))
      clear hT hb1 hf1
      go_wp2_with fail
      refine (refNew_any n2 h21 h22 _).mono ?_; rintro e w4 ⟨q0, G2, rfl, hT, hb1, hf1⟩
      have H4 : Hid (Four w t r u q0 w4) := by
        obtain ⟨a1, a2, a3⟩ := H1.out
        obtain ⟨b1, b2, b3⟩ := H2.out
        obtain ⟨c1, c2, c3⟩ := H3.out
        have z1 := a2.size
        have z2 := b2.size
        have z3 := c2.size
        have z4 := hb1.size
        refine ⟨_, F, G, _, F2, G2, newT_inv n h1 h2, newT_inv n2 h21 h22, ⟨(((a1.calm b2).calm c2).calm hb1), c1.calm hb1, fun b hF hG => ?_⟩, ⟨(b1.calm c2).calm hb1, hT, fun b hF hG => ?_⟩, ?_, ?_, ?_, ?_⟩
        · have := a1.lt hF; have := c3 b hG; omega
        · have := b1.lt hF; have := hf1 b hG; omega
        · exact ((a2.trans (b2.mono z1)).trans (c2.mono (by omega))).trans (hb1.mono (by omega))
        · rintro b (h | h)
          · exact a3 b h
          · have := c3 b h; omega
        · rintro b (h | h)
          · have := b3 b h; omega
          · have := hf1 b h; omega
        · rintro b (h | h) (h' | h')
          · have := a1.lt h; have := b3 b h'; omega
          · have := a1.lt h; have := hf1 b h'; omega
          · have := b1.lt h'; have := c3 b h; omega
          · have := c1.lt h; have := hf1 b h'; omega
      clear hT hb1 hf1 H1 H2 H3
      go_wp2_with fail
      go_loopw [15, 16] (fun i _ wr => ∃ k : Nat, k ≤ len ∧ i = .int .i64 k ∧ Hid (Four w t r u q0 wr)) (fun i _ _ => len - (intOf i).toNat)
      case atStart => exact ⟨0, by omega, rfl, H4.out⟩
      case round =>
        obtain ⟨k, hk, rfl, HP⟩ := hrel
        obtain ⟨s1, F, G, s2, F2, G2, hI1, hI2, hB1, hB2, hb, hf, hf2, hd⟩ := HP.out
        have HI := Lib.hid hI1
        have HI2 := Lib.hid hI2
        have HB := Lib.hid hB1
        have HB2 := Lib.hid hB2
        have HBL := Lib.hid hb
        have HF := Lib.hid hf
        have HF2 := Lib.hid hf2
        have HD := Lib.hid hd
        clear hI1 hI2 hB1 hB2 hb hf hf2 hd
        by_cases hlt : k < len
        · obtain ⟨b, off, rfl, hbw, hcell⟩ := HG.out.resolve_left (by omega)
          have c0 := (HBL.out.cell (p := ⟨b, off + k * 3 + 0, none⟩) hbw).trans (hcell k hlt 0 (by omega))
          have c1 := (HBL.out.cell (p := ⟨b, off + k * 3 + 1, none⟩) hbw).trans (hcell k hlt 1 (by omega))
          have c2 := (HBL.out.cell (p := ⟨b, off + k * 3 + 2, none⟩) hbw).trans (hcell k hlt 2 (by omega))
          simp only [Nat.add_zero] at c0
          generalize q k 0 = x0 at *
          generalize q k 1 = x1 at *
          generalize q k 2 = x2 at *
          clear hcell
          by_cases h3 : k % 3 = 1
          · have hb3 : ((k : Int) % 3 == 1) = true := by simp; omega
            clear h3
            go_wp2_with fail
            refine (one_any s2 HI2.out u q0 F2 G2 _ HB2.out x0 x1 x2).mono ?_; rintro e w5 ⟨rfl, hstep⟩
            have H5 := Lib.hid (Four.swap (Four.step1 (stepT_inv HI2.out x0 x1 x2) HI.out HB.out HBL.out HF2.out HF.out (fun b h1 h2 => HD.out b h2 h1) hstep))
            clear hstep c0 c1 c2
            go_wp2_with fail
            go_roundw
            case rel => exact ⟨k + 1, by omega, by go_num, H5.out⟩
            case measure => simp [intOf]; omega
          · have hb3 : ((k : Int) % 3 == 1) = false := by simp; omega
            clear h3
            go_wp2_with fail
            refine (one_any s1 HI.out t r F G _ HB.out x0 x1 x2).mono ?_; rintro e w5 ⟨rfl, hstep⟩
            have H5 := Lib.hid (Four.step1 (stepT_inv HI.out x0 x1 x2) HI2.out HB2.out HBL.out HF.out HF2.out HD.out hstep)
            clear hstep c0 c1 c2
            go_wp2_with fail
            go_roundw
            case rel => exact ⟨k + 1, by omega, by go_num, H5.out⟩
            case measure => simp [intOf]; omega
        · obtain rfl : k = len := by omega
          go_wp2_with fail
          refine (tabList_obj s1 HI.out t F _ HB.out.1).mono ?_
          rintro e w3 ⟨v1, rfl, ho1, hb⟩
          have HO1 := Lib.hid (own_zero ho1)
          have H3 := Lib.hid hb
          clear ho1 hb
          go_wp2_with fail
          refine (refList_obj s1 HI.out r G _ (HB.out.2.1.calm H3.out)).mono ?_
          rintro e w4 ⟨v2, rfl, ho2, hb⟩
          have HO2 := Lib.hid (own_zero ho2)
          have HO3 := Lib.hid (own_calm HO1.out hb)
          have H4 : Hid (Below wr.heap.size wr w4) := H3.out.trans (hb.mono H3.out.size)
          clear ho2 hb
          go_wp2_with fail
          refine (sameWrites_any v1 v2 s1.rows s1.rows _ HO3.out HO2.out).mono ?_
          rintro e w5 ⟨rfl, hb⟩
          have H5 : Hid (Below wr.heap.size wr w5) := H4.out.trans (hb.mono H4.out.size)
          clear hb HO1 HO2 HO3 H3 H4
          go_wp2_with fail
          refine (tabList_obj s2 HI2.out u F2 _ (HB2.out.1.calm H5.out)).mono ?_
          rintro e w6 ⟨v3, rfl, ho1, hb⟩
          have HO1 := Lib.hid (own_zero ho1)
          have H6 : Hid (Below wr.heap.size wr w6) := H5.out.trans (hb.mono H5.out.size)
          clear ho1 hb
          go_wp2_with fail
          refine (refList_obj s2 HI2.out q0 G2 _ (HB2.out.2.1.calm H6.out)).mono ?_
          rintro e w7 ⟨v4, rfl, ho2, hb⟩
          have HO2 := Lib.hid (own_zero ho2)
          have HO3 := Lib.hid (own_calm HO1.out hb)
          have H7 : Hid (Below wr.heap.size wr w7) := H6.out.trans (hb.mono H6.out.size)
          clear ho2 hb
          go_wp2_with fail
          refine (sameWrites_any v3 v4 s2.rows s2.rows _ HO3.out HO2.out).mono ?_
          rintro e w8 ⟨rfl, hb⟩
          have H8 : Hid (Below wr.heap.size wr w8) := H7.out.trans (hb.mono H7.out.size)
          clear hb
          go_wp2_with fail
          go_ret
          exact ⟨ret_bool (by simp), HBL.out.trans (H8.out.mono HBL.out.size)⟩
end Go.Proofs.Ytgaaghpcnkcjcaa
