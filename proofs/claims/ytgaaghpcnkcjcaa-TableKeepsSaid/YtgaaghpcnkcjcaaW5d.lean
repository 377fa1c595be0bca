/- The walk of TableOwns. -/
import Derived.Test.YtgaaghpcnkcjcaaW5c
namespace Go.Proofs.Ytgaaghpcnkcjcaa
open Go.RowKit
set_option linter.unusedVariables false
/-- Both tables are put into alike. -/
theorem both_puts {w wr wa w1 wb w2 : World} {t r : Nat} {st : TS} {F G : Nat → Prop} {c v x y : Int} {e e2 : Ending} (hI : Inv st) (hB : Both wr t r st F G) (hb : Below w.heap.size w wr) (hf : ∀ b, F b ∨ G b → w.heap.size ≤ b)
    (h0 : Below wr.heap.size wr wa) (h1 : TabPut wa t F (putT st c v) x e w1) (h2 : Below w1.heap.size w1 wb) (h3 : RefPut wb r G (putT st c v) y e2 w2) : Playing w t r w2 := by
  obtain ⟨_, F', hT, hc1, hf1⟩ := h1
  obtain ⟨_, G', hR, hc2, hf2⟩ := h3
  have z := h2.size
  exact Playing.step (putT_inv hI c v) hb hf (both_step hB h0 hT hc1 hf1 hR ((Chg.calm G h2).trans hc2 (fun _ h => h) (fun _ _ h => h)) (fun b hb => (hf2 b hb).imp id (fun h => by omega)))
set_option maxHeartbeats 8000000 in
theorem tableOwns_law {w : World} (m : Int) (wm : (Lit.int .i64 m).wf = true) (a : Option Addr) (len cap : Nat) (q : Nat → Nat → Int) (hg : Grid w a len 2 q) (hlc : len ≤ cap) (hcm : cap ≤ maxLen) (hq : ∀ i j, (Lit.int .i64 (q i j)).wf = true) :
    Calls Try.prog 6 #[.int .i64 m, .slice a len cap] w fun e w' => e = .returned (.bool true) ∧ Below w.heap.size w w' := by
  obtain ⟨i0, hi, hI0, hI1, hI2⟩ := info_parts infoWrite
  have HG := Lib.hid hg
  unfold maxLen at hcm
  clear wm hg hq
  by_cases hm : m < 1 ∨ 24 < m
  · have HM := Lib.hid hm
    clear hm
    go_enter Try.func6, Try.ntmps6
    go_wp2_with fail
    refine (tabNew_bad m HM.out _).mono ?_; rintro e w1 ⟨rfl, rfl⟩
    go_wp2_with fail
    refine (refNew_bad m HM.out _).mono ?_; rintro e w1 ⟨rfl, rfl⟩
    go_wp2_with fail
    go_ret
    exact ⟨rfl, Below.refl _ _⟩
  · obtain ⟨n, rfl⟩ : ∃ n : Nat, m = n := ⟨m.toNat, by omega⟩
    have h1 : 1 ≤ n := by omega
    have h2 : n ≤ 24 := by omega
    clear hm
    go_enter Try.func6, Try.ntmps6
    go_wp2_with fail
    refine (tabNew_any n h1 h2 _).mono ?_; rintro e w1 ⟨t, F, rfl, hT, hb1, hf1⟩
    have H1 := Lib.hid (And.intro hT (And.intro hb1 hf1))
    clear hT hb1 hf1
    go_wp2_with fail
    refine (refNew_any n h1 h2 _).mono ?_; rintro e w2 ⟨r, G, rfl, hR, hb2, hf2⟩
    have H2 : Hid (Playing w t r w2) := by
      obtain ⟨h1', h2', h3'⟩ := new_both H1.out.1 H1.out.2.1 H1.out.2.2 hR hb2 hf2
      exact ⟨_, F, G, newT_inv n h1 h2, h1', h2', h3'⟩
    clear hR hb2 hf2 H1
    go_wp2_with fail
    go_loopw [9] (fun i wr => ∃ k : Nat, k ≤ len ∧ i = .int .i64 k ∧ Hid (Playing w t r wr)) (fun i _ => len - (intOf i).toNat)
    case atStart => exact ⟨0, by omega, rfl, H2.out⟩
    case round =>
      obtain ⟨k, hk, rfl, HP⟩ := hrel
      obtain ⟨st, F, G, hI, hB, hb, hf⟩ := HP.out
      have hrl : st.rows.length ≤ 24 := Nat.le_trans hI.full hI.m2
      have hnn := numT_pos st.most
      have HI := Lib.hid hI
      have HB := Lib.hid hB
      have HBL := Lib.hid (And.intro hb hf)
      clear hI hB hb hf
      by_cases hlt : k < len
      · obtain ⟨b, off, rfl, hbw, hcell⟩ := HG.out.resolve_left (by omega)
        have c0 := (HBL.out.1.cell (p := ⟨b, off + k * 2 + 0, none⟩) hbw).trans (hcell k hlt 0 (by omega))
        have c1 := (HBL.out.1.cell (p := ⟨b, off + k * 2 + 1, none⟩) hbw).trans (hcell k hlt 1 (by omega))
        simp only [Nat.add_zero] at c0
        generalize q k 0 = x0 at *
        generalize q k 1 = x1 at *
        clear hcell
        obtain ⟨y, HY⟩ : ∃ y, Hid (putE st x0 = y) := ⟨_, rfl⟩
        go_wp2_with fail
        go_still_tail 11, (by kernel_rfl)
        change wpList _ _ _ _ _ wr.drew
        go_wp2_with fail
        refine (tabPut_any st HI.out t F _ (HB.out.1.calm (Below.drew (Below.refl _ _))) x0 x1).mono ?_
        rw [HY.out]
        intro e w3 hput
        obtain ⟨rfl, _⟩ := id hput
        have H3 := Lib.hid hput
        have hF : Hid (Below w.heap.size w w3) := by
          obtain ⟨_, F', _, hC, _⟩ := H3.out
          exact HBL.out.1.trans (Below.trans (b := wr.drew) (Below.drew (Below.refl w.heap.size wr)) (hC.below (B := w.heap.size) (fun i h => HBL.out.2 i (.inl h)) HBL.out.1.size))
        have d0 : w3.cell? ⟨b, off + k * 2, none⟩ = some (.int .i64 x0) := by
          have h := (hF.out.cell (p := ⟨b, off + k * 2, none⟩) hbw).trans (HBL.out.1.cell (p := ⟨b, off + k * 2, none⟩) hbw).symm
          exact h.trans c0
        have d1 : w3.cell? ⟨b, off + k * 2 + 1, none⟩ = some (.int .i64 x1) := by
          have h := (hF.out.cell (p := ⟨b, off + k * 2 + 1, none⟩) hbw).trans (HBL.out.1.cell (p := ⟨b, off + k * 2 + 1, none⟩) hbw).symm
          exact h.trans c1
        have HRO : Hid (RefObj w3 r st G) := by
          obtain ⟨_, F', _, hC, _⟩ := H3.out
          exact RefObj.after (st' := st) HB.out (Below.drew (Below.refl _ _)) hC
        clear hput c0 c1
        go_wp2_with fail
        go_still_tail 11, (by kernel_rfl)
        change wpList _ _ _ _ _ w3.drew
        go_wp2_with fail
        refine (refPut_any st HI.out r G _ (HRO.out.calm (Below.drew (Below.refl _ _))) x0 x1).mono ?_
        rw [HY.out]
        intro e w4 hput
        obtain ⟨rfl, _⟩ := id hput
        have H4 := Lib.hid (both_puts HI.out HB.out HBL.out.1 HBL.out.2 (Below.drew (Below.refl _ _)) H3.out (Below.drew (Below.refl _ _)) hput)
        clear hput d0 d1
        go_wp2_with fail
        go_roundw
        case rel => exact ⟨k + 1, by omega, by go_num, H4.out⟩
        case measure => simp [intOf]; omega
      · obtain rfl : k = len := by omega
        obtain ⟨wo, rfl⟩ : ∃ wo : World, wo = wr := ⟨_, rfl⟩
        go_wp2_with fail
        refine (tabList_obj st HI.out t F _ HB.out.1).mono ?_
        rintro e w3 ⟨v1, rfl, ho1, hb⟩
        have HO1 := Lib.hid ho1
        have H3 := Lib.hid hb
        have hz3 := hb.size
        clear ho1 hb
        go_wp2_with fail
        refine (tabSlots_obj st HI.out t F _ (HB.out.1.calm H3.out)).mono ?_
        rintro e w4 ⟨v2, rfl, ho2, hb⟩
        obtain ⟨a2, c2, rfl⟩ := ownAt_form ho2
        have hz4 := hb.size
        have HO2 := Lib.hid ho2
        have H4 : Hid (Below wo.heap.size wo w4) := H3.out.trans (hb.mono hz3)
        have hown := own_calm HO1.out hb
        have HV1 := Lib.hid HO1.out.lt
        have HV2 := Lib.hid ho2.lt
        have hsl := slotsC_length st
        have HSL : Hid (st.sl.length = numT st.most) := HI.out.len
        generalize (slotsC st).length = N at *
        have hN64 : N ≤ 64 := by have := HSL.out; omega
        clear ho2 hb HO1 hsl
        go_wp2_with (at_builtin; refine wpList_append_own_at _ rfl (.tmp 66) (.tmp 68) 28 rfl wo.heap.size 36 i0 (.agg #[.int .i64 0, .int .i64 0]) 2 16 Try.underlying28 hi hI0 hI1 hI2 rfl (by decide) _ _ _ rfl (hown.alloc _) ⟨w4.heap.size, 0, none⟩ 1 1 [.int .i64 5, .int .i64 5] rfl rfl ?c1 ?c2 ?c3 ?c4 ?c5 ?_)
        case c1 => exact two_new _ _ _ _
        case c2 => intro u hu; simp at hu; subst hu; rfl
        case c3 => unfold maxLen; omega
        case c4 => omega
        case c5 => simp; omega
        · intro v' w5 hown' hgrow _ hwhere
          obtain ⟨a', c', rfl⟩ := ownAt_form hown'
          have hz5 := hgrow.size
          simp only [World.size_alloc] at hz5
          have HD : Hid (∀ b, (Value.slice a' (st.rows.length + 1) c').ownBlock = some b → (Value.slice a2 N c2).ownBlock ≠ some b) := by
            intro b h1 h2
            have h3 := HV2.out b h2
            rcases hwhere with e | e
            · have h4 := HV1.out b (e.symm.trans h1); omega
            · rw [h1] at e
              simp at e
              omega
          have HS5 : Hid (w5.ownsRow w3.heap.size 3 1 (.slice a2 N c2) N ((slotsC st).map (Value.int .i64))) := by
            refine own_chg (HO2.out.alloc _) (Chg.grown hgrow) (fun b h2 h1 => ?_)
            have h3 := HV2.out b h2
            have h4 := HV1.out b h1
            omega
          have H5 : Hid (Below wo.heap.size wo w5) := (H4.out.alloc (by omega) _).grown hgrow (by simp; omega) (fun k hk => (HV1.out k hk).1)
          have HO5 := Lib.hid hown'
          generalize hM : st.rows.length + 1 = M at *
          have hM25 : M ≤ 25 := by omega
          clear hown hown' hgrow hwhere HO2 HV1 HV2 H4 hM
          go_wp2_with fail
          go_loopw [12] (fun i wr => ∃ j : Nat, j ≤ M ∧ i = .int .i64 j ∧ w5.heap.size ≤ wr.heap.size ∧ Hid ((∃ xs, wr.ownsRow wo.heap.size 36 2 (.slice a' M c') M xs) ∧ wr.ownsRow w3.heap.size 3 1 (.slice a2 N c2) N ((slotsC st).map (Value.int .i64)) ∧ Below wo.heap.size wo wr)) (fun i _ => M - (intOf i).toNat)
          case atStart => exact ⟨0, by omega, rfl, Nat.le_refl _, ⟨_, HO5.out⟩, HS5.out, H5.out⟩
          case round =>
            obtain ⟨j, hj, rfl, hsz, HH⟩ := hrel
            by_cases hlt2 : j < M
            · obtain ⟨⟨xs, hx⟩, hs, hbl⟩ := HH.out
              obtain ⟨g, cc, hv, hg1, hg2, hcell, hf, hset⟩ := own_parts hx (by omega)
              obtain ⟨rfl, rfl⟩ := slice_inj hv
              have hlx : xs.length = M * 2 := hx.1
              obtain ⟨u0, hu0⟩ : ∃ u, xs[j * 2]? = some u := ⟨_, List.getElem?_eq_getElem (by omega)⟩
              obtain ⟨u1, hu1⟩ : ∃ u, xs[j * 2 + 1]? = some u := ⟨_, List.getElem?_eq_getElem (by omega)⟩
              have e0 := (hcell (j * 2) (by omega)).trans hu0
              have e1 := (hcell (j * 2 + 1) (by omega)).trans hu1
              have HX1 := Lib.hid (hset (j * 2) (.int .i64 7) (by omega))
              have HBG := Lib.hid hg1
              clear hcell hset hx hs hbl hv hlx hu0 hu1 hg1
              go_wp2_with fail
              go_roundw
              case rel =>
                obtain ⟨g3, c3, hv3, _, _, _, _, hset3⟩ := own_parts HX1.out (by omega)
                obtain ⟨e3, _⟩ := slice_inj hv3
                obtain rfl : g = g3 := by simpa using e3
                obtain ⟨_, hs, hbl⟩ := HH.out
                refine ⟨j + 1, by omega, by go_num, by simp [World.setCell]; omega, ⟨_, hset3 (j * 2 + 1) (.int .i64 99) (by omega)⟩, ?_, (hbl.setCell HBG.out _).setCell HBG.out _⟩
                exact own_chg (own_chg hs (Chg.setCell _ _ _) (fun b h2 h1 => HD.out b (by rw [h1]; rfl) h2)) (Chg.setCell _ _ _) (fun b h2 h1 => HD.out b (by rw [h1]; rfl) h2)
              case measure => simp [intOf]; omega
            · obtain ⟨_, hs, hbl⟩ := HH.out
              have HSR := Lib.hid hs
              have HBR := Lib.hid hbl
              obtain ⟨wq, rfl⟩ : ∃ wq : World, wq = wr := ⟨_, rfl⟩
              clear hs hbl HH HS5 HO5 H5
              go_wp2_with fail
              go_loopw [13] (fun i wr => ∃ j : Nat, j ≤ N ∧ i = .int .i64 j ∧ wq.heap.size ≤ wr.heap.size ∧ Hid ((∃ xs, wr.ownsRow w3.heap.size 3 1 (.slice a2 N c2) N xs) ∧ Below wo.heap.size wo wr)) (fun i _ => N - (intOf i).toNat)
              case atStart => exact ⟨0, by omega, rfl, Nat.le_refl _, ⟨_, HSR.out⟩, HBR.out⟩
              case round =>
                obtain ⟨l, hl, rfl, hsz2, HH⟩ := hrel
                by_cases hlt3 : l < N
                · obtain ⟨⟨xs, hx⟩, hbl⟩ := HH.out
                  obtain ⟨g, cc, hv, hg1, hg2, hcell, hf, hset⟩ := own_parts hx (by omega)
                  obtain ⟨rfl, rfl⟩ := slice_inj hv
                  have hlx : xs.length = N := by have := hx.1; omega
                  obtain ⟨u0, hu0⟩ : ∃ u, xs[l]? = some u := ⟨_, List.getElem?_eq_getElem (by omega)⟩
                  have e0 := (hcell l (by omega)).trans hu0
                  have HX1 := Lib.hid (hset l (.int .i64 3) (by omega))
                  have HBG : Hid (wo.heap.size ≤ g) := by show _ ≤ _; omega
                  clear hcell hset hx hbl hv hlx hu0 hg1
                  go_wp2_with fail
                  go_roundw
                  case rel => exact ⟨l + 1, by omega, by go_num, by simp [World.setCell]; omega, ⟨_, HX1.out⟩, HH.out.2.setCell HBG.out _⟩
                  case measure => simp [intOf]; omega
                · have HBE := Lib.hid HH.out.2
                  have HB2 := Lib.hid (HB.out.calm HBE.out)
                  clear HH HSR HBR
                  go_wp2_with fail
                  refine (tabList_obj st HI.out t F _ HB2.out.1).mono ?_
                  rintro e w6 ⟨v1, rfl, ho1, hb⟩
                  have HO1 := Lib.hid (own_zero ho1)
                  have H6 := Lib.hid hb
                  clear ho1 hb
                  go_wp2_with fail
                  refine (refList_obj st HI.out r G _ (HB2.out.2.1.calm H6.out)).mono ?_
                  rintro e w7 ⟨v2, rfl, ho2, hb⟩
                  have HO2 := Lib.hid (own_zero ho2)
                  have HO3 := Lib.hid (own_calm HO1.out hb)
                  have H7 : Hid (Below wr.heap.size wr w7) := H6.out.trans (hb.mono H6.out.size)
                  clear ho2 hb
                  go_wp2_with fail
                  refine (sameWrites_any v1 v2 st.rows st.rows _ HO3.out HO2.out).mono ?_
                  rintro e w8 ⟨rfl, hb⟩
                  have H8 : Hid (Below wr.heap.size wr w8) := H7.out.trans (hb.mono H7.out.size)
                  clear hb HO1 HO2 HO3 H6 H7
                  go_wp2_with fail
                  refine (tabSlots_obj st HI.out t F _ (HB2.out.1.calm H8.out)).mono ?_
                  rintro e w9 ⟨v3, rfl, ho1, hb⟩
                  have HO1 := Lib.hid (own_zero ho1)
                  have H9 : Hid (Below wr.heap.size wr w9) := H8.out.trans (hb.mono H8.out.size)
                  clear ho1 hb
                  go_wp2_with fail
                  refine (refSlots_obj st HI.out r G _ (HB2.out.2.1.calm H9.out)).mono ?_
                  rintro e w10 ⟨v4, rfl, ho2, hb⟩
                  have HO2 := Lib.hid (own_zero ho2)
                  have HO3 := Lib.hid (own_calm HO1.out hb)
                  have H10 : Hid (Below wr.heap.size wr w10) := H9.out.trans (hb.mono H9.out.size)
                  clear ho2 hb
                  go_wp2_with fail
                  refine (sameInts_any v3 v4 (slotsC st) (slotsC st) _ HO3.out HO2.out).mono ?_
                  rintro e w11 ⟨rfl, hb⟩
                  have H11 : Hid (Below wr.heap.size wr w11) := H10.out.trans (hb.mono H10.out.size)
                  clear hb
                  go_wp2_with fail
                  go_ret
                  exact ⟨ret_bool (by simp), HBL.out.1.trans ((HBE.out.mono HBL.out.1.size).trans (H11.out.mono (Nat.le_trans HBL.out.1.size HBE.out.size)))⟩
end Go.Proofs.Ytgaaghpcnkcjcaa
