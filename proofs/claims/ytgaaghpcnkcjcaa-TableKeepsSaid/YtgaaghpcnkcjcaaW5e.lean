/- The walk of TableWays. -/
import Derived.Test.YtgaaghpcnkcjcaaW5d
import Derived.Test.YtgaaghpcnkcjcaaS5b
namespace Go.Proofs.Ytgaaghpcnkcjcaa
open Go.RowKit
set_option linter.unusedVariables false
/-- The program's table is put into; the reference's is as it was made. -/
def Waying (w : World) (t r m : Nat) (wr : World) : Prop := ∃ st F G, Inv st ∧ st.most = m ∧ TabObj wr t st F ∧ RefObj wr r (newT m) G ∧ (∀ b, F b → ¬ G b) ∧ Below w.heap.size w wr ∧ ∀ b, F b → w.heap.size ≤ b
theorem Waying.step {w wr wr' w' : World} {t r m : Nat} {st : TS} {F G : Nat → Prop} {c v x : Int} {e : Ending} (hI : Inv st) (hm : st.most = m) (hR : RefObj wr r (newT m) G) (hd : ∀ b, F b → ¬ G b) (hb : Below w.heap.size w wr) (hb2 : Below wr.heap.size wr wr') (hf : ∀ b, F b → w.heap.size ≤ b)
    (h : TabPut wr' t F (putT st c v) x e w') : e = .returned (.int .i64 x) ∧ Waying w t r m w' := by
  obtain ⟨he, F', hT, hC, h1⟩ := h
  have z := hb.size
  have z2 := hb2.size
  refine ⟨he, _, F', G, putT_inv hI c v, (putT_most _ _ _).trans hm, hT, (hR.calm hb2).chg hC (fun b hg hF => hd b hF hg), fun b h hg => ?_, (hb.trans (hb2.mono z)).trans (hC.below hf (by omega)), fun b h => ?_⟩
  · rcases h1 b h with h | h
    · exact hd b h hg
    · have := hR.lt hg; omega
  · rcases h1 b h with h | h
    · exact hf b h
    · omega
theorem refFirst_obj (m : Nat) (h1 : 1 ≤ m) (h2 : m ≤ 24) (p : Nat) (F : Nat → Prop) (w : World) (h : RefObj w p (newT m) F) (c : Int) :
    Calls Try.prog 19 #[.pointer (some ⟨p, 0, none⟩), .int .i64 c] w fun e w' => e = .returned (.int .i64 (hashT m c)) ∧ w = w' :=
  let ⟨lv, sv, hR, _⟩ := h; first_any (newT m) (newT_inv m h1 h2) p lv sv w hR c
theorem mod_next (h e N : Nat) : ((h + e) % N + 1) % N = (h + (e + 1)) % N := by
  rw [Nat.add_mod, Nat.mod_mod, ← Nat.add_mod]; rfl
set_option maxRecDepth 100000 in
set_option maxHeartbeats 8000000 in
theorem tableWays_law {w : World} (m : Int) (wm : (Lit.int .i64 m).wf = true) (a : Option Addr) (len cap : Nat) (q : Nat → Nat → Int) (hg : Grid w a len 2 q) (hlc : len ≤ cap) (hcm : cap ≤ maxLen) (hq : ∀ i j, (Lit.int .i64 (q i j)).wf = true) :
    Calls Try.prog 5 #[.int .i64 m, .slice a len cap] w fun e w' => e = .returned (.bool true) ∧ Below w.heap.size w w' := by
  have HG := Lib.hid hg
  unfold maxLen at hcm
  clear wm hg hq
  by_cases hm : m < 1 ∨ 24 < m
  · have HM := Lib.hid hm
    clear hm
    go_enter Try.func5, Try.ntmps5
    go_wp2_with fail
    refine (tabNew_bad m HM.out _).mono ?_; rintro e w1 ⟨rfl, rfl⟩
    go_wp2_with fail
    refine (refNew_bad m HM.out _).mono ?_; rintro e w1 ⟨rfl, rfl⟩
    go_wp2_with fail
    go_ret
    exact ⟨rfl, Below.refl _ _⟩
  · obtain ⟨n, rfl⟩ : ∃ n : Nat, m = n := ⟨m.toNat, by omega⟩
    have h1 : 1 ≤ n := by omega
    have h2 : n ≤ 24 := by omega
    clear hm
    go_enter Try.func5, Try.ntmps5
    go_wp2_with fail
    refine (tabNew_any n h1 h2 _).mono ?_; rintro e w1 ⟨t, F, rfl, hT, hb1, hf1⟩
    have H1 := Lib.hid (And.intro hT (And.intro hb1 hf1))
    clear hT hb1 hf1
    go_wp2_with fail
    refine (refNew_any n h1 h2 _).mono ?_; rintro e w2 ⟨r, G, rfl, hR, hb2, hf2⟩
    have H2 : Hid (Waying w t r n w2) := by
      obtain ⟨h1', h2', h3'⟩ := new_both H1.out.1 H1.out.2.1 H1.out.2.2 hR hb2 hf2
      exact ⟨_, F, G, newT_inv n h1 h2, rfl, h1'.1, h1'.2.1, h1'.2.2, h2', fun b h => h3' b (.inl h)⟩
    clear hR hb2 hf2 H1
    go_wp2_with fail
    go_loopw [9] (fun i wr => ∃ k : Nat, k ≤ len ∧ i = .int .i64 k ∧ Hid (Waying w t r n wr)) (fun i _ => len - (intOf i).toNat)
    case atStart => exact ⟨0, by omega, rfl, H2.out⟩
    case round =>
      obtain ⟨k, hk, rfl, HP⟩ := hrel
      obtain ⟨st, F, G, hI, hmo, hT, hR, hd, hb, hf⟩ := HP.out
      have hrl : st.rows.length ≤ 24 := Nat.le_trans hI.full hI.m2
      have HI := Lib.hid hI
      have HMO := Lib.hid hmo
      have HT := Lib.hid hT
      have HR := Lib.hid (And.intro hR hd)
      have HBL := Lib.hid (And.intro hb hf)
      clear hI hmo hT hb hf hR hd
      by_cases hlt : k < len
      · obtain ⟨b, off, rfl, hbw, hcell⟩ := HG.out.resolve_left (by omega)
        have c0 := (HBL.out.1.cell (p := ⟨b, off + k * 2 + 0, none⟩) hbw).trans (hcell k hlt 0 (by omega))
        have c1 := (HBL.out.1.cell (p := ⟨b, off + k * 2 + 1, none⟩) hbw).trans (hcell k hlt 1 (by omega))
        simp only [Nat.add_zero] at c0
        generalize q k 0 = x0 at *
        generalize q k 1 = x1 at *
        clear hcell
        obtain ⟨y, HY⟩ : ∃ y, Hid (putE st x0 = y) := ⟨_, rfl⟩
        go_wp2_with fail
        go_still_tail 11, (by kernel_rfl)
        change wpList _ _ _ _ _ wr.drew
        go_wp2_with fail
        refine (tabPut_any st HI.out t F _ (HT.out.calm (Below.drew (Below.refl _ _))) x0 x1).mono ?_
        rw [HY.out]
        intro e w3 hput
        obtain ⟨rfl, hP3⟩ := Waying.step HI.out HMO.out HR.out.1 HR.out.2 HBL.out.1 (Below.drew (Below.refl _ _)) HBL.out.2 hput
        have H3 := Lib.hid hP3
        clear hput hP3 c0 c1
        go_wp2_with fail
        go_roundw
        case rel => exact ⟨k + 1, by omega, by go_num, H3.out⟩
        case measure => simp [intOf]; omega
      · obtain rfl : k = len := by omega
        obtain ⟨wo, rfl⟩ : ∃ wo : World, wo = wr := ⟨_, rfl⟩
        have hrp := HR.out.1.lt ((let ⟨_, _, _, h⟩ := HR.out.1; (h r).2 (.inl rfl)) : G r)
        go_wp2_with fail
        refine (tabSlots_obj st HI.out t F _ HT.out).mono ?_
        rintro e w3 ⟨v1, rfl, ho1, hb⟩
        obtain ⟨a1, c1, rfl⟩ := ownAt_form ho1
        have HO1 := Lib.hid (own_zero ho1)
        have H3 := Lib.hid hb
        have hz3 := hb.size
        clear ho1 hb
        go_wp2_with fail
        refine (tabList_obj st HI.out t F _ (HT.out.calm H3.out)).mono ?_
        rintro e w4 ⟨v2, rfl, ho2, hb⟩
        obtain ⟨a2, c2, rfl⟩ := ownAt_form ho2
        have HO2 := Lib.hid (own_zero ho2)
        have HO3 := Lib.hid (own_calm HO1.out hb)
        have H4 : Hid (Below wo.heap.size wo w4) := H3.out.trans (hb.mono H3.out.size)
        have HR4 := Lib.hid (HR.out.1.calm H4.out)
        have hsl : (slotsC st).length = numT n := by rw [slotsC_length, HI.out.len, HMO.out]
        have hnn := numT_pos n
        rw [hsl] at HO3
        have HN := Lib.hid HMO.out
        obtain ⟨lvr, svr, hRA, _⟩ := HR4.out
        obtain ⟨ra, rc, rfl⟩ := ownAt_form hRA.2.2.1
        obtain ⟨sa, sc, rfl⟩ := ownAt_form hRA.2.1
        have hplace : w4.cell? ⟨r, 2, none⟩ = some (.slice sa (numT n) sc) := by simp [World.cell?, hRA.1]; rfl
        clear ho2 hb HO1 H3 HR HP hRA
        rw [hsl]
        generalize hNN : numT n = N at *
        have HNN := Lib.hid hNN
        have HSL : Hid (st.sl.length = N) := by show _ = _; rw [HI.out.len, HMO.out]; exact hNN
        have HFU : Hid (fullN st.sl N = st.rows.length) := by
          show _ = _
          rw [← hNN, ← HMO.out]; exact HI.out.fullN
        clear hNN hsl
        go_wp2_with fail
        go_loop [12, 13] (fun f i => ∃ j : Nat, j ≤ N ∧ i = .int .i64 j ∧ f = .int .i64 (fullN st.sl j)) (fun _ i => N - (intOf i).toNat)
        case atStart => exact ⟨0, by omega, rfl, rfl⟩
        case round =>
          obtain ⟨j, hj, rfl, rfl⟩ := hrel
          have hfle := fullN_le st.sl j
          by_cases hltj : j < N
          · obtain ⟨g1, cc, he, hx, hf⟩ := slots_cells HO3.out j hltj
            obtain ⟨rfl, rfl⟩ := slice_inj he
            have hx2 : w4.cell? ⟨g1, j, none⟩ = some (.int .i64 (slotC st j)) := by rw [hx, slotsC_get (by rw [HSL.out]; exact hltj)]
            have hnonneg := slotC_nonneg HI.out (k := j) (by rw [HMO.out, HNN.out]; exact hltj)
            have hsucc := fullN_succ st.sl j
            clear he hx hf
            generalize slotC st j = x at *
            by_cases hneg : slotAt st.sl j = -1
            · have hxn : x < 0 := by
                have h := mt hnonneg.1 (by simp [hneg])
                omega
              rw [if_pos hneg, Nat.add_zero] at hsucc
              have HSU := Lib.hid hsucc
              clear hsucc hneg hnonneg
              go_wp2_with fail
              go_round
              case rel => exact ⟨j + 1, by omega, by go_num, by rw [HSU.out]; rfl⟩
              case measure => simp [intOf]; omega
            · have hxn : 0 ≤ x := hnonneg.2 hneg
              rw [if_neg hneg] at hsucc
              have HSU := Lib.hid hsucc
              clear hsucc hneg hnonneg
              go_wp2_with fail
              go_round
              case rel => exact ⟨j + 1, by omega, by go_num, by rw [HSU.out]; go_num⟩
              case measure => simp [intOf]; omega
          · obtain rfl : j = N := by omega
            rw [HFU.out] at hfle ⊢
            obtain ⟨L, hL⟩ : ∃ L, st.rows.length = L := ⟨_, rfl⟩
            have HL := Lib.hid hL
            have HO4 := Lib.hid HO2.out
            rw [hL] at HO2 hrl hfle ⊢
            clear hL
            go_wp2_with fail
            go_loopw [14, 15, 16, 17] (fun i _ _ _ wr => ∃ l : Nat, l ≤ L ∧ i = .int .i64 l ∧ Hid (Below w4.heap.size w4 wr)) (fun i _ _ _ _ => L - (intOf i).toNat)
            case atStart => exact ⟨0, by omega, rfl, Below.refl _ _⟩
            case round =>
              obtain ⟨l, hl, rfl, HB⟩ := hrel
              by_cases hltl : l < L
              · have HR5 := Lib.hid (HR4.out.calm HB.out)
                have HO5 := Lib.hid (own_calm HO3.out HB.out)
                have HO6 := Lib.hid (own_calm HO4.out HB.out)
                obtain ⟨g2, cc2, he2, hy1, hy2, hf2⟩ := rows_cells HO6.out l (by rw [HL.out]; exact hltl)
                rw [HL.out] at he2
                obtain ⟨rfl, rfl⟩ := slice_inj he2
                have hcr := HI.out.cells l (by rw [HL.out]; exact hltl)
                obtain ⟨d, hd1, hd2, hd3⟩ := HI.out.wayC (i := l) (by rw [HL.out]; exact hltl)
                rw [HMO.out, HNN.out] at hd1 hd2 hd3
                have hhl := hashT_lt n (cellAt st.rows l)
                rw [HNN.out] at hhl
                have HFI : Hid (∀ w c, RefObj w r (newT n) G → Calls Try.prog 19 #[.pointer (some ⟨r, 0, none⟩), .int .i64 c] w fun e w' => e = .returned (.int .i64 (hashT n c)) ∧ w = w') := fun w c h => refFirst_obj n h1 h2 r G w h c
                have HFC := Lib.hid (HFI.out wr (cellAt st.rows l) HR5.out)
                have hdr : decide (0 ≤ cellAt st.rows l ∧ cellAt st.rows l < 1024) = true := by simp; exact hcr
                have HDR := Lib.hid hdr
                generalize hashT n (cellAt st.rows l) = h at *
                generalize cellAt st.rows l = c at *
                have HW2 := Lib.hid hd2
                have HW3 := Lib.hid hd3
                clear hdr he2 hf2 hy2 hd2 hd3
                go_wp2_with fail
                refine (right_any c _).mono ?_; rw [HDR.out]; rintro e w' ⟨rfl, rfl⟩
                go_wp2_with fail
                refine HFC.out.mono ?_; rintro e w' ⟨rfl, rfl⟩
                obtain ⟨wi, rfl⟩ : ∃ wi : World, wi = wr := ⟨_, rfl⟩
                go_wp2_with fail
                go_loopw [16, 17] (fun kk nn wr => ∃ e k : Nat, e ≤ d ∧ k < j ∧ nn = .int .i64 e ∧ kk = .int .i64 k ∧ Hid (k = (h + e) % j) ∧ Hid (Below wi.heap.size wi wr)) (fun _ nn _ => j - (intOf nn).toNat)
                case atStart => exact ⟨0, h, by omega, hhl, rfl, rfl, by show _ = _; rw [Nat.add_zero, Nat.mod_eq_of_lt hhl], Below.refl _ _⟩
                case round =>
                  obtain ⟨e, k2, hed, hkj, rfl, rfl, HK, HBI⟩ := hrel
                  have HO7 := Lib.hid (own_calm HO5.out HBI.out)
                  have HO8 := Lib.hid (own_calm HO6.out HBI.out)
                  obtain ⟨g3, cc3, he3, hx3, hf3⟩ := slots_cells HO7.out k2 hkj
                  obtain ⟨rfl, rfl⟩ := slice_inj he3
                  rw [slotsC_get (by rw [HSL.out]; exact hkj)] at hx3
                  have hy5 : wr.cell? ⟨g2, l * 2, none⟩ = some (.int .i64 c) := (HBI.out.cell (p := ⟨g2, l * 2, none⟩) (own_lt HO6.out rfl)).trans hy1
                  obtain ⟨x, HX⟩ : ∃ x, Hid (slotC st k2 = x) := ⟨_, rfl⟩
                  rw [HX.out] at hx3
                  have hej : (e : Int) < j := by omega
                  clear he3 hf3
                  by_cases hxc : x = c
                  · have hb1 : (x != c) = false := by simp [hxc]
                    have hb2 : (x == c) = true := by simp [hxc]
                    clear hxc
                    go_wp2_with fail
                    go_quiet (fail)
                    go_wp2_with fail
                    go_quiet (fail)
                    go_wp2_with fail
                    go_roundw
                    case rel => exact ⟨l + 1, by omega, by go_num, HB.out.trans ((HBI.out.trans (below_drewN (Below.refl _ _) _)).mono HB.out.size)⟩
                    case measure => simp [intOf]; omega
                  · have hb1 : (x != c) = true := by simp [hxc]
                    have hb2 : (x == c) = false := by simp [hxc]
                    have hed2 : e < d := by
                      rcases Nat.lt_or_ge e d with h | h
                      · exact h
                      · exfalso
                        obtain rfl : e = d := by omega
                        exact hxc (by rw [← HX.out, HK.out]; exact HW2.out)
                    have hx0 : 0 ≤ x := by rw [← HX.out, HK.out]; exact HW3.out e hed2
                    clear hxc
                    go_wp2_with fail
                    go_quiet (fail)
                    go_wp2_with fail
                    go_roundw
                    case rel =>
                      refine ⟨e + 1, (k2 + 1) % j, by omega, Nat.mod_lt _ (by omega), by go_num, by go_num, ?_, HBI.out.trans (below_drewN (Below.refl _ _) _)⟩
                      show _ = _
                      rw [HK.out, mod_next]
                    case measure => simp [intOf]; omega
              · obtain rfl : l = L := by omega
                go_wp2_with fail
                go_ret
                exact ⟨ret_bool (by simp), HBL.out.1.trans ((H4.out.trans (HB.out.mono H4.out.size)).mono HBL.out.1.size)⟩
end Go.Proofs.Ytgaaghpcnkcjcaa
