/- The walk of TablePlays. -/
import Derived.Test.YtgaaghpcnkcjcaaC5m
import Derived.Test.YtgaaghpcnkcjcaaR5b
namespace Go.Proofs.Ytgaaghpcnkcjcaa
open Go.RowKit
set_option linter.unusedVariables false
theorem new_both {w w1 w2 : World} {m t r : Nat} {F G : Nat → Prop} (hT : TabObj w1 t (newT m) F) (hb1 : Below w.heap.size w w1) (hf1 : ∀ b, F b → w.heap.size ≤ b)
    (hR : RefObj w2 r (newT m) G) (hb2 : Below w1.heap.size w1 w2) (hf2 : ∀ b, G b → w1.heap.size ≤ b) : Both w2 t r (newT m) F G ∧ Below w.heap.size w w2 ∧ (∀ b, F b ∨ G b → w.heap.size ≤ b) := by
  have z1 := hb1.size
  refine ⟨⟨hT.calm hb2, hR, fun b hF hG => ?_⟩, hb1.trans (hb2.mono z1), fun b h => h.elim (hf1 b) (fun h => by have := hf2 b h; omega)⟩
  have := hT.lt hF
  have := hf2 b hG
  omega
/-- The invariant of the loops over steps. -/
def Playing (w : World) (t r : Nat) (wr : World) : Prop := ∃ st F G, Inv st ∧ Both wr t r st F G ∧ Below w.heap.size w wr ∧ ∀ b, F b ∨ G b → w.heap.size ≤ b
theorem Playing.step {w wr w' : World} {t r : Nat} {st' : TS} {F G : Nat → Prop} (hI : Inv st') (hb : Below w.heap.size w wr) (hf : ∀ b, F b ∨ G b → w.heap.size ≤ b) (h : BothStep wr t r F G st' w') : Playing w t r w' := by
  obtain ⟨F', G', hB, hC, h1, h2⟩ := h
  have z := hb.size
  refine ⟨st', F', G', hI, hB, hb.trans (hC.below hf z), fun b h => ?_⟩
  rcases h with h | h
  · rcases h1 b h with h | h
    · exact hf b (.inl h)
    · omega
  · rcases h2 b h with h | h
    · exact hf b (.inr h)
    · omega
set_option maxHeartbeats 2000000 in
theorem tablePlays_law {w : World} (m : Int) (wm : (Lit.int .i64 m).wf = true) (a : Option Addr) (len cap : Nat) (q : Nat → Nat → Int) (hg : Grid w a len 3 q) (hlc : len ≤ cap) (hcm : cap ≤ maxLen) (hq : ∀ i j, (Lit.int .i64 (q i j)).wf = true) :
    Calls Try.prog 7 #[.int .i64 m, .slice a len cap] w fun e w' => e = .returned (.bool true) ∧ Below w.heap.size w w' := by
  have HG := Lib.hid hg
  unfold maxLen at hcm
  clear wm hg hq
  by_cases hm : m < 1 ∨ 24 < m
  · have HM := Lib.hid hm
    clear hm
    go_enter Try.func7, Try.ntmps7
    go_wp2_with fail
    refine (tabNew_bad m HM.out _).mono ?_; rintro e w1 ⟨rfl, rfl⟩
    go_wp2_with fail
    refine (refNew_bad m HM.out _).mono ?_; rintro e w1 ⟨rfl, rfl⟩
    go_wp2_with fail
    go_ret
    exact ⟨rfl, Below.refl _ _⟩
  · obtain ⟨n, rfl⟩ : ∃ n : Nat, m = n := ⟨m.toNat, by omega⟩
    have h1 : 1 ≤ n := by omega
    have h2 : n ≤ 24 := by omega
    clear hm
    go_enter Try.func7, Try.ntmps7
    go_wp2_with fail
    refine (tabNew_any n h1 h2 _).mono ?_; rintro e w1 ⟨t, F, rfl, hT, hb1, hf1⟩
    have H1 := Lib.hid (And.intro hT (And.intro hb1 hf1))
    clear hT hb1 hf1
    go_wp2_with fail
    refine (refNew_any n h1 h2 _).mono ?_; rintro e w2 ⟨r, G, rfl, hR, hb2, hf2⟩
    have H2 : Hid (Playing w t r w2) := by
      obtain ⟨h1', h2', h3'⟩ := new_both H1.out.1 H1.out.2.1 H1.out.2.2 hR hb2 hf2
      exact ⟨_, F, G, newT_inv n h1 h2, h1', h2', h3'⟩
    clear hR hb2 hf2 H1
    go_wp2_with fail
    go_loopw [9, 10] (fun i _ wr => ∃ k : Nat, k ≤ len ∧ i = .int .i64 k ∧ Hid (Playing w t r wr)) (fun i _ _ => len - (intOf i).toNat)
    case atStart => exact ⟨0, by omega, rfl, H2.out⟩
    case round =>
      obtain ⟨k, hk, rfl, HP⟩ := hrel
      obtain ⟨st, F, G, hI, hB, hb, hf⟩ := HP.out
      have HI := Lib.hid hI
      have HB := Lib.hid hB
      have HBL := Lib.hid (And.intro hb hf)
      clear hI hB hb hf
      by_cases hlt : k < len
      · obtain ⟨b, off, rfl, hbw, hcell⟩ := HG.out.resolve_left (by omega)
        have c0 := (HBL.out.1.cell (p := ⟨b, off + k * 3 + 0, none⟩) hbw).trans (hcell k hlt 0 (by omega))
        have c1 := (HBL.out.1.cell (p := ⟨b, off + k * 3 + 1, none⟩) hbw).trans (hcell k hlt 1 (by omega))
        have c2 := (HBL.out.1.cell (p := ⟨b, off + k * 3 + 2, none⟩) hbw).trans (hcell k hlt 2 (by omega))
        simp only [Nat.add_zero] at c0
        generalize q k 0 = x0 at *
        generalize q k 1 = x1 at *
        generalize q k 2 = x2 at *
        clear hcell
        go_wp2_with fail
        refine (one_any st HI.out t r F G _ HB.out x0 x1 x2).mono ?_; rintro e w3 ⟨rfl, hstep⟩
        have H3 := Lib.hid (Playing.step (stepT_inv HI.out x0 x1 x2) HBL.out.1 HBL.out.2 hstep)
        clear hstep c0 c1 c2
        go_wp2_with fail
        go_roundw
        case rel => exact ⟨k + 1, by omega, by go_num, H3.out⟩
        case measure => simp [intOf]; omega
      · obtain rfl : k = len := by omega
        go_wp2_with fail
        refine (tabList_obj st HI.out t F _ HB.out.1).mono ?_
        rintro e w3 ⟨v1, rfl, ho1, hb⟩
        have HO1 := Lib.hid (own_zero ho1)
        have H3 := Lib.hid hb
        clear ho1 hb
        go_wp2_with fail
        refine (refList_obj st HI.out r G _ (HB.out.2.1.calm H3.out)).mono ?_
        rintro e w4 ⟨v2, rfl, ho2, hb⟩
        have HO2 := Lib.hid (own_zero ho2)
        have HO3 := Lib.hid (own_calm HO1.out hb)
        have H4 : Hid (Below wr.heap.size wr w4) := H3.out.trans (hb.mono H3.out.size)
        clear ho2 hb
        go_wp2_with fail
        refine (sameWrites_any v1 v2 st.rows st.rows _ HO3.out HO2.out).mono ?_
        rintro e w5 ⟨rfl, hb⟩
        have H5 : Hid (Below wr.heap.size wr w5) := H4.out.trans (hb.mono H4.out.size)
        clear hb HO1 HO2 HO3 H3 H4
        go_wp2_with fail
        refine (tabSlots_obj st HI.out t F _ (HB.out.1.calm H5.out)).mono ?_
        rintro e w6 ⟨v3, rfl, ho1, hb⟩
        have HO1 := Lib.hid (own_zero ho1)
        have H6 : Hid (Below wr.heap.size wr w6) := H5.out.trans (hb.mono H5.out.size)
        clear ho1 hb
        go_wp2_with fail
        refine (refSlots_obj st HI.out r G _ (HB.out.2.1.calm H6.out)).mono ?_
        rintro e w7 ⟨v4, rfl, ho2, hb⟩
        have HO2 := Lib.hid (own_zero ho2)
        have HO3 := Lib.hid (own_calm HO1.out hb)
        have H7 : Hid (Below wr.heap.size wr w7) := H6.out.trans (hb.mono H6.out.size)
        clear ho2 hb
        go_wp2_with fail
        refine (sameInts_any v3 v4 (slotsC st) (slotsC st) _ HO3.out HO2.out).mono ?_
        rintro e w8 ⟨rfl, hb⟩
        have H8 : Hid (Below wr.heap.size wr w8) := H7.out.trans (hb.mono H7.out.size)
        clear hb
        go_wp2_with fail
        go_ret
        exact ⟨ret_bool (by simp), HBL.out.1.trans (H8.out.mono HBL.out.1.size)⟩
end Go.Proofs.Ytgaaghpcnkcjcaa
