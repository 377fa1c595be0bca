/- The walk of SigGroups. -/
import Derived.Test.YtcnkoiogfhggeaaDoorC2x
namespace Go.Proofs.YtcnkoiogfhggeaaDoor
open Go.RowKit
set_option linter.unusedVariables false
set_option maxRecDepth 100000 in
set_option maxHeartbeats 8000000 in
theorem sigGroups_law {w : World} (a : Option Addr) (len cap : Nat) (q : Nat → Nat → Int) (hg : SigsAt w a len q) (hlc : len ≤ cap) (hcm : cap ≤ maxLen) (hq : ∀ i, Wds (q i)) (hsmall : len ≤ 2199023255552) (hT : Tab w) :
    Calls Tryd.prog 6 #[.slice a len cap] w fun e w' => e = .returned (.bool true) ∧ Below w.heap.size w w' := by
  obtain ⟨i0, hi, hI0, hI1, hI2⟩ := info_parts infoSigG
  obtain ⟨mk, hmk, hbw⟩ := makeSig len hsmall
  have HS := Lib.hid hg
  have HQ := Lib.hid hq
  have HT := Lib.hid hT
  have HMK := Lib.hid hmk
  unfold maxLen at hcm
  clear hg hq hT hmk
  go_enter Tryd.func6, Tryd.ntmps6
  go_wp2_with fail
  refine (shown2_any _ HT.out).mono ?_; rintro e w1 ⟨rfl, hb⟩
  have B1 := Lib.hid hb
  clear hb
  have hb1 : Below w1.heap.size w1 (w1.alloc (.cells mk 25)) := (Below.refl _ _).alloc (Nat.le_refl _) _
  obtain ⟨w2, hcopy, hin, hgrow⟩ := run_copy_into (P := Tryd.prog) (w1.alloc (.cells mk 25)) 37 37 3 25 i0 8 Tryd.underlying37 hi hI1 w1.heap.size len len cap len (Nat.le_refl _) mk 25 (heapAlloc _ _) (by rw [HMK.out]; exact Nat.le_refl _) a (sigCs q len) (sigCs_len _ _) (sigs_src ((HS.out.below B1.out).below hb1)) (sigCs_one _ _)
  have HB12 : Hid (Below w1.heap.size w1 w2) := hb1.grown hgrow hb1.size (fun b e => by simp at e; omega)
  have HIN : Hid (SigsAt w2 (some ⟨w1.heap.size, 0, none⟩) len q) := sigs_made hin
  have HB2 : Hid (Below w.heap.size w w2) := B1.out.trans (HB12.out.mono B1.out.size)
  clear hb1 hin hgrow HMK
  go_wp2_with fail
  clear hcopy hbw
  obtain ⟨gs, hgs⟩ : ∃ gs, grpZ q len = gs := ⟨_, rfl⟩
  have HGS := Lib.hid hgs
  have hA := sigGroups_any q HQ.out (some ⟨w1.heap.size, 0, none⟩) len len w2 HIN.out hsmall
  rw [hgs] at hA
  refine hA.mono ?_; rintro e w3 ⟨v, rfl, hA⟩
  have HA := Lib.hid hA
  clear hA
  go_wp2_with fail
  have hA := refGroups_any q HQ.out a len cap w3 (HS.out.below (HB2.out.trans (HA.out.below.mono HB2.out.size))) hsmall
  rw [hgs] at hA
  refine hA.mono ?_; rintro e w4 ⟨u, rfl, hA2⟩
  have HAB : Hid (AtW w2 (Star (RowsH v gs) (RowsH u gs)) w4) := AtW.new (RowsH.good _ _) HA.out hA2
  clear hA2 HA
  obtain ⟨FA, xs, hR, _, _⟩ := atw_open (RowsH.good _ _) HAB.out
  obtain ⟨ys, hU⟩ := atw_right HAB.out
  obtain ⟨L, hL⟩ : ∃ L, gs.length = L := ⟨_, rfl⟩
  have HL := Lib.hid hL
  have hv := ownAt_form hR.out
  rw [hL] at hv
  obtain ⟨va, vc, rfl⟩ := hv
  have HCC := Lib.hid (groups_any _ u gs xs ys w4 hR hU)
  clear hR hU hA
  go_wp2_with fail
  refine HCC.out.mono ?_; rintro e w5 ⟨rfl, hb⟩
  have H5 := Lib.hid (HAB.out.calm ((RowsH.good _ _).star (RowsH.good _ _)) hb)
  clear hb HCC HAB
  have hLs : L ≤ 2199023255552 := by
    rw [← hL, ← hgs, grpZ_len]
    exact Nat.le_trans (groupsG_len _ _) hsmall
  have HG : Hid (∀ k, k < L → ∃ g, gs[k]? = some g ∧ g.length ≤ 2199023255552) := fun k hk => ⟨_, List.getElem?_eq_getElem (by omega), Nat.le_trans (grpZ_small (q := q) (n := len) (k := k) (by rw [hgs]; exact List.getElem?_eq_getElem (by omega))) hsmall⟩
  clear hL hgs
  go_wp2_with fail
  go_loopw [8] (fun i wr => ∃ k : Nat, k ≤ L ∧ i = .int .i64 k ∧ Hid (AtW w2 (Star (RowsH (.slice va L vc) (midG gs k)) (RowsH u gs)) wr)) (fun i _ => L - (intOf i).toNat)
  case atStart => exact ⟨0, by omega, rfl, by rw [show midG gs 0 = gs from preL_zero _ _]; exact H5.out⟩
  case round =>
    clear H5
    obtain ⟨k, hk, rfl, HK⟩ := hrel
    by_cases hlt : k < L
    · obtain ⟨g, hgk, hgs⟩ := HG.out k hlt
      have HGK := Lib.hid hgk
      clear hgk
      obtain ⟨n, hn⟩ : ∃ n, g.length = n := ⟨_, rfl⟩
      have HN := Lib.hid hn
      rw [hn] at hgs
      clear hn
      go_wp2_with fail
      go_loopw [9] (fun j wr => ∃ m : Nat, m ≤ n ∧ j = .int .i64 m ∧ Hid (AtW w2 (Star (RowsH (.slice va L vc) ((midG gs k).set k (preL (ovF k) m g))) (RowsH u gs)) wr)) (fun j _ => n - (intOf j).toNat)
      case atStart =>
        refine ⟨0, by omega, rfl, ?_⟩
        rw [preL_zero, set_self (midG_get HGK.out)]
        exact HK.out
      case round =>
        clear HK
        obtain ⟨m, hm, rfl, HM⟩ := hrel
        obtain ⟨FA2, xs2, hR, hF, hgo⟩ := atw_open (RowsH.good _ _) HM.out
        have hkl : k < gs.length := by rw [HL.out]; exact hlt
        have hgm : ((midG gs k).set k (preL (ovF k) m g))[k]? = some (preL (ovF k) m g) := get_set_self _ (by rw [midG_len (Nat.le_of_lt hkl)]; exact hkl)
        have hpl : (preL (ovF k) m g).length = n := by rw [preL_len _ _ _ (by rw [HN.out]; exact hm)]; exact HN.out
        obtain ⟨b, x, xc, rfl, hx, x0, f0, hxo⟩ := row_look hR hgm hpl
        have HR := Lib.hid (And.intro hR (And.intro hF hgo))
        have HX := Lib.hid (And.intro hx (And.intro hgm hpl))
        have HXO := Lib.hid hxo
        clear hR hF hgo hx hgm hpl hxo
        by_cases hml : m < n
        · obtain ⟨z, hz⟩ : ∃ z, g[m]? = some z := ⟨_, List.getElem?_eq_getElem (by rw [HN.out]; exact hml)⟩
          obtain ⟨bx, rfl, x1, f1⟩ := int_look HXO.out ((preL_get _ _).trans hz)
          clear hz
          have hw1 : IntKind.i64.wrap (-1000 * (k : Int)) = -1000 * k := by rw [IntKind.wrap_i64]; omega
          have hw2 : IntKind.i64.wrap (-1000 * (k : Int) - m) = -1000 * k - m := by rw [IntKind.wrap_i64]; omega
          go_wp2_with fail
          go_roundw
          case rel =>
            refine ⟨m + 1, by omega, by go_num, HR.out.2.2 _ _ ?_⟩
            have h := rows_set HR.out.1 HR.out.2.1 HX.out.2.1 HX.out.1 (j := m) (by rw [HX.out.2.2]; exact hml) rfl (ovF k m)
            rw [List.set_set, preL_succ _ _ (by rw [HN.out]; exact hml)] at h
            exact h
          case measure => simp [intOf]; omega
        · obtain rfl : m = n := by omega
          have hxo := HXO.out
          have hw1 : IntKind.i64.wrap (-1000 * (k : Int)) = -1000 * k := by rw [IntKind.wrap_i64]; omega
          have hw2 : IntKind.i64.wrap (-1000 * (k : Int) - 500) = -1000 * k - 500 := by rw [IntKind.wrap_i64]; omega
          have HMS : Hid (preL (ovF k) m g ++ [-1000 * (k : Int) - 500] = repG k m ∧ (midG gs k).set k (repG k m) = midG gs (k + 1)) := by
            have h1 := repG_app (j := k) g
            have h2 := midG_succ HGK.out
            rw [HN.out] at h1 h2
            exact ⟨h1, h2⟩
          go_wp2_with (at_builtin; refine wpL_int1n (b := wr.heap.size) (z := -1000 * (k : Int) - 500) rfl (.tmp 59) (.tmp 63) rfl rfl (hxo.alloc _) rfl (cell_new0 _ _ _) (by omega) ?_; intro xa xd w6 ho2 hg2 hloc; have HST := Lib.hid (rows_grow HR.out.1 HR.out.2.1 HX.out.2.1 HX.out.1 ((Below.refl _ _).alloc (Nat.le_refl _) _) ho2 hg2 hloc rfl); have hkp := rows_keep HR.out.1 HX.out.1 ((Below.refl _ _).alloc (Nat.le_refl _) _) hg2 rfl; have x5 := (World.cell?_of_block (a := ⟨b, k, none⟩) hkp).trans x0; have f5 := (World.frozen?_of_block (a := ⟨b, k, none⟩) hkp).trans f0; clear hkp ho2 hg2 hloc)
          go_roundw
          case rel =>
            refine ⟨k + 1, by omega, by go_num, HR.out.2.2 _ _ ?_⟩
            have h := HST.out
            rw [List.set_set, HMS.out.1, HMS.out.2] at h
            exact h
          case measure => simp [intOf]; omega
    · obtain rfl : k = L := by omega
      obtain ⟨FA2, xs2, hR, _, _⟩ := atw_open (RowsH.good _ _) HK.out
      obtain ⟨ys2, hU⟩ := atw_right HK.out
      have HR := Lib.hid hR
      have HU := Lib.hid hU
      have HW2 := Lib.hid HK.out.below
      clear hR hU HK
      generalize wr = w6 at *
      go_wp2_with fail
      go_loopw [10] (fun i wr => ∃ j : Nat, j ≤ k ∧ i = .int .i64 j ∧ Hid (Below w6.heap.size w6 wr)) (fun i _ => k - (intOf i).toNat)
      case atStart => exact ⟨0, by omega, rfl, Below.refl _ _⟩
      case round =>
        obtain ⟨j, hj, rfl, HB⟩ := hrel
        by_cases hlt2 : j < k
        · obtain ⟨g, hgj, hgs⟩ := HG.out j hlt2
          obtain ⟨n, hn⟩ : ∃ n, g.length = n := ⟨_, rfl⟩
          have hmd := midG_done hgj
          rw [HL.out, hn] at hmd
          rw [hn] at hgs
          clear hgj hn
          obtain ⟨b, x, xc, rfl, hx, x0, f0, hxo⟩ := row_look (HR.out.calm HB.out) hmd (repG_len _ _)
          obtain ⟨bx, rfl, x1, f1⟩ := int_look hxo (repG_last j n)
          have HX0 : Hid (∀ W, Below wr.heap.size wr W → W.cell? ⟨b, j, none⟩ = some (.slice (some ⟨bx, 0, none⟩) (n + 1) xc)) := fun W hb => (hb.cell (p := ⟨b, j, none⟩) (World.block_lt_of_cell? wr _ x0)).trans x0
          have HXG : Hid (∀ m, m < n → ∀ W, Below wr.heap.size wr W → W.cell? ⟨bx, m, none⟩ = some (.int .i64 (-1000 * (j : Int) - m))) := by
            intro m hm W hb
            obtain ⟨bx', e, x2, _⟩ := int_look hxo (repG_get hm)
            simp only [Option.some.injEq, Addr.mk.injEq] at e
            rw [← e.1] at x2
            exact (hb.cell (p := ⟨bx, m, none⟩) (World.block_lt_of_cell? wr _ x2)).trans x2
          have hw1 : IntKind.i64.wrap (-1000 * (j : Int)) = -1000 * j := by rw [IntKind.wrap_i64]; omega
          have hw2 : IntKind.i64.wrap (-1000 * (j : Int) - 500) = -1000 * j - 500 := by rw [IntKind.wrap_i64]; omega
          clear hx hxo hmd f0 f1
          go_wp2_with fail
          go_quiet (fail)
          have HBQ : Hid (Below wr.heap.size wr (wr.drewN nq)) := below_drewN (Below.refl _ _) nq
          clear x0 x1
          generalize wr.drewN nq = wq at *
          generalize wr = w7 at *
          go_wp2_with fail
          go_loopw [11] (fun i wx => ∃ m : Nat, m ≤ n ∧ i = .int .i64 m ∧ Hid (Below w7.heap.size w7 wx)) (fun i _ => n - (intOf i).toNat)
          case atStart => exact ⟨0, by omega, rfl, HBQ.out⟩
          case round =>
            obtain ⟨m, hm, rfl, HBX⟩ := hrel
            have x0 := HX0.out wr HBX.out
            by_cases hml : m < n
            · have x1 := HXG.out m hml wr HBX.out
              have hw3 : IntKind.i64.wrap (-1000 * (j : Int) - m) = -1000 * j - m := by rw [IntKind.wrap_i64]; omega
              go_wp2_with fail
              go_roundw
              case rel => exact ⟨m + 1, by omega, by go_num, HBX.out⟩
              case measure => simp [intOf]; omega
            · obtain rfl : m = n := by omega
              go_wp2_with fail
              go_roundw
              case rel => exact ⟨j + 1, by omega, by go_num, HB.out.trans (HBX.out.mono HB.out.size)⟩
              case measure => simp [intOf]; omega
        · obtain rfl : j = k := by omega
          have HBW := Lib.hid (HW2.out.trans (HB.out.mono HW2.out.size))
          have HBU := Lib.hid (HU.out.calm HB.out)
          clear HW2 HB HU HR
          generalize wr = w7 at *
          go_wp2_with fail
          go_loopw [12] (fun i wr => ∃ t : Nat, t ≤ len ∧ i = .int .i64 t ∧ Hid (Below w7.heap.size w7 wr)) (fun i _ => len - (intOf i).toNat)
          case atStart => exact ⟨0, by omega, rfl, Below.refl _ _⟩
          case round =>
            obtain ⟨t, ht, rfl, HB⟩ := hrel
            have HB2W := Lib.hid (HBW.out.trans (HB.out.mono HBW.out.size))
            by_cases htl : t < len
            · obtain ⟨b, off, rfl, hbw, hc⟩ := (HS.out.below (HB2.out.trans (HB2W.out.mono HB2.out.size))).resolve_left (by omega)
              obtain ⟨b2, off2, e2, hbw2, hc2⟩ := (HIN.out.below HB2W.out).resolve_left (by omega)
              simp only [Option.some.injEq, Addr.mk.injEq, and_true] at e2
              obtain ⟨e3, e4⟩ := e2
              have hd := hc t htl
              have hd2 := hc2 t htl
              rw [← e3, ← e4] at hd2
              generalize q t = sk at *
              have c0 := hd 0 (by omega)
              have c1 := hd 1 (by omega)
              have c2 := hd 2 (by omega)
              have c3 := hd 3 (by omega)
              have c4 := hd 4 (by omega)
              have c5 := hd 5 (by omega)
              have c6 := hd 6 (by omega)
              have c7 := hd 7 (by omega)
              have d0 := hd2 0 (by omega)
              have d1 := hd2 1 (by omega)
              have d2 := hd2 2 (by omega)
              have d3 := hd2 3 (by omega)
              have d4 := hd2 4 (by omega)
              have d5 := hd2 5 (by omega)
              have d6 := hd2 6 (by omega)
              have d7 := hd2 7 (by omega)
              simp only [Nat.add_zero] at c0
              simp only [Nat.add_zero, Nat.zero_add] at d0 d1 d2 d3 d4 d5 d6 d7
              clear hd hd2 hc hc2 e3 e4 hbw hbw2
              have heq := run_sig_eq
              go_wp2_with fail
              go_quiet (fail)
              go_wp2_with fail
              go_roundw
              case rel => exact ⟨t + 1, by omega, by go_num, below_drewN HB.out nq⟩
              case measure => simp [intOf]; omega
            · obtain rfl : t = len := by omega
              have HU9 := Lib.hid (HBU.out.calm HB.out)
              have hA := sigGroups_any q HQ.out (some ⟨w1.heap.size, 0, none⟩) t t wr (HIN.out.below HB2W.out) hsmall
              rw [HGS.out] at hA
              have HA9 := Lib.hid hA
              clear hA
              go_wp2_with fail
              refine HA9.out.mono ?_; rintro e w8 ⟨v8, rfl, hA⟩
              obtain ⟨zs, h8⟩ := atw_rows hA
              have HB8 := Lib.hid hA.below
              have HC8 := Lib.hid (groups_any v8 u gs zs ys2 w8 h8 (HU9.out.calm hA.below))
              clear hA h8
              go_wp2_with fail
              refine HC8.out.mono ?_; rintro e w9 ⟨rfl, hb⟩
              have HB9 := Lib.hid hb
              clear hb
              go_wp2_with fail
              go_ret
              have h1 := HB2.out.trans (HB2W.out.mono HB2.out.size)
              have h2 := h1.trans (HB8.out.mono h1.size)
              exact ⟨rfl, h2.trans (HB9.out.mono h2.size)⟩
end Go.Proofs.YtcnkoiogfhggeaaDoor
