/- Layer 11: the walk of BackOrder. -/
import Derived.Test.YtlmnljijpgpmiaaW11a
import Derived.StillTailTactics
import Derived.Deep.RegionLaw
import Derived.Deep.CutBlock
import Derived.Deep.CutRange
namespace Go.Proofs.Ytlmnljijpgpmiaa
open Go.RowKit
set_option linter.unusedVariables false
set_option maxHeartbeats 8000000 in
set_option maxRecDepth 100000 in
theorem backOrder_law {w : World} (raw : Int) (a1 : Option Addr) (l1 c1 : Nat) (q1 : Nat → Nat → Int) (a2 : Option Addr) (l2 c2 : Nat) (q2 : Nat → Nat → Int) (a3 : Option Addr) (T c3 : Nat) (q3 : Nat → Bool) (hg1 : Grid w a1 l1 2 q1) (hq1 : ∀ i j, I64 (q1 i j)) (hg2 : Grid w a2 l2 2 q2) (hq2 : ∀ i j, I64 (q2 i j)) (hg3 : T = 0 ∨ ∃ b off, a3 = some ⟨b, off, none⟩ ∧ b < w.heap.size ∧ ∀ i, i < T → w.cell? ⟨b, off + i, none⟩ = some (.bool (q3 i))) (hm1 : l1 ≤ 9223372036854775807) (hm2 : l2 ≤ 9223372036854775807) (hb3 : T ≤ 1048576) :
    Calls Try.prog 4 #[.agg #[.int .i64 raw, .slice a1 l1 c1, .slice a2 l2 c2, .slice a3 T c3]] w fun e w' => e = .returned (.bool true) ∧ Below w.heap.size w w' := by
  obtain ⟨i0, hi, hI0, hI1, hI2⟩ := info_parts infoWr
  have HG1 := Lib.hid hg1
  have HG2 := Lib.hid hg2
  have HG3 := Lib.hid hg3
  have HQ1 := Lib.hid hq1
  have HQ2 := Lib.hid hq2
  have hp := pickZ_range raw 15 (by decide)
  obtain ⟨n, hn⟩ : ∃ n : Nat, 2 + pickZ raw 15 = n := ⟨(2 + pickZ raw 15).toNat, by omega⟩
  have hn1 : 2 ≤ n := by omega
  have hn2 : n ≤ 16 := by omega
  have HP := Lib.hid (pick_any raw 15 (by decide) (by decide))
  generalize pickZ raw 15 = pz at *
  obtain rfl : pz = (n : Int) - 2 := by omega
  have HPC : Hid (∀ x w, Calls Try.prog 7 #[.int .i64 x, .int .i64 8] w fun e w' => e = .returned (.int .i64 (pickZ x 8)) ∧ w = w') := fun x w => pick_any x 8 (by decide) (by decide) w
  have HB0 : Hid (∀ a, Below w.heap.size w (w.alloc a)) := fun a => (Below.refl _ _).alloc (Nat.le_refl _) _
  have e0 : (2 : Int) + ((n : Int) - 2) = n := by omega
  have HM := Lib.hid (memNew_any 8 n (by decide) (by decide) (by omega) (by omega))
  clear hg1 hg2 hg3 hq1 hq2 hp hn
  go_enter Try.func4, Try.ntmps4
  go_wp2_with fail
  refine (shown11_any _).mono ?_; rintro e w1 ⟨rfl, hb⟩
  have B1 := Lib.hid ((HB0.out _).trans (hb.mono (by simp)))
  clear hb HB0
  go_wp2_with fail
  refine (HP.out w1).mono ?_; rintro e w' ⟨rfl, rfl⟩
  clear HP
  go_upto_block 0 with (fail)
  go_cut [9] from 11 (fun v wx => ∃ N : Nat, N ≤ 6 ∧ wx.ownsRow w1.heap.size 29 2 v N (wcells (fitW q1 N)) ∧ Hid (Below w1.heap.size w1 wx))
  case first =>
    go_wp2_with fail
    go_loopw [9, 11] (fun v i wr => ∃ k : Nat, k ≤ l1 ∧ k ≤ 6 ∧ i = .int .i64 k ∧ w1.heap.size ≤ wr.heap.size ∧ wr.ownsRow w1.heap.size 29 2 v k (wcells (fitW q1 k)) ∧ Hid (Below w1.heap.size w1 wr)) (fun _ i _ => 6 - (intOf i).toNat)
    case atStart => exact ⟨0, by omega, by omega, rfl, by simp, World.ownsRow_nil _ _ _ _, Below.refl _ _⟩
    case round =>
      obtain ⟨k, hk, hk4, rfl, hsz, hown, HB⟩ := hrel
      by_cases hlt : k < l1
      · by_cases hlt4 : k < 6
        · obtain ⟨b, off, rfl, hbw, hcell⟩ := HG1.out.resolve_left (by omega)
          have hbel := B1.out.trans (HB.out.mono B1.out.size)
          have c0 := (hbel.cell (p := ⟨b, off + k * 2 + 0, none⟩) hbw).trans (hcell k hlt 0 (by omega))
          have c1 := (hbel.cell (p := ⟨b, off + k * 2 + 1, none⟩) hbw).trans (hcell k hlt 1 (by omega))
          have HN := Lib.hid (fitW_succ q1 k)
          have HO := Lib.hid hown
          simp only [Nat.add_zero] at c0
          clear hcell hown hbel
          generalize q1 k 0 = x0 at *
          generalize q1 k 1 = x1 at *
          go_wp2_with fail
          go_region_law (first | (go_simp; go_at_call 7; refine (HPC.out _ _).mono ?_; rintro e w2 ⟨rfl, rfl⟩) | (refine step_append_lies _ (by rfl) (.tmp 54) (.tmp 67) 22 (by rfl) w1.heap.size 29 i0 (.agg #[.int .i64 0, .int .i64 0]) 2 16 Try.underlying22 hi hI0 hI1 hI2 (by rfl) (by decide) _ _ _ (by rfl) (World.ownsRow.alloc (w := wr.drew) HO.out _) ⟨wr.heap.size, 0, none⟩ 1 1 [.int .i64 (pickZ x0 8), .int .i64 x1] (by rfl) (by rfl) (two_news wr.drew _ _ _ _ rfl) (two_cell1 _ _) (by decide) (by unfold maxLen; omega) (by omega) (by simp; omega) _ rfl ?_; intro g2 c2 w2 hown2 hgrow hat hlt2))
          all_goals
            have HB2 : Hid (Below w1.heap.size w1 w2) := HB.out.trans ((((Below.refl _ _).drew).alloc (by simp; omega) _).grown hgrow (by simp; omega) (fun j hj => (HO.out.lt j hj).1))
            have hz4 := HB2.out.size
            rw [← HN.out] at hown2
            have HO2 := Lib.hid hown2
            clear hown2 hgrow hat
            go_wp2_with fail
            go_roundw
            case rel => exact ⟨k + 1, by omega, by omega, by go_num, by omega, HO2.out, HB2.out⟩
            case measure => simp [intOf]; omega
        · obtain rfl : k = 6 := by omega
          have HO := Lib.hid hown
          clear hown
          go_wp2_with fail
          go_meet
          case rel => exact ⟨6, by omega, HO.out, HB.out⟩
      · obtain rfl : k = l1 := by omega
        have HO := Lib.hid hown
        clear hown
        go_wp2_with fail
        go_meet
        case rel => exact ⟨_, by omega, HO.out, HB.out⟩
  obtain ⟨N, hN6, hownN, HBN⟩ := hcut
  obtain ⟨va, vc, rfl⟩ := ownAt_form hownN
  have HROW1 : Hid (AtW w1 (RowH (.slice va N vc) (fitW q1 N)) wc) := ⟨fun b => (Value.slice va N vc).ownBlock = some b, ⟨by rw [fitW_len]; exact own_base hownN (fun _ _ => Nat.zero_le _), fun _ => Iff.rfl⟩, HBN.out, fun b h => (hownN.lt b h).1⟩
  clear hownN
  go_upto_block 2 with (fail)
  go_cut [10] from 12 (fun v wx => ∃ N : Nat, N ≤ 6 ∧ wx.ownsRow wc.heap.size 29 2 v N (wcells (fitW q2 N)) ∧ Hid (Below wc.heap.size wc wx))
  case first =>
    go_wp2_with fail
    go_loopw [10, 12] (fun v i wr => ∃ k : Nat, k ≤ l2 ∧ k ≤ 6 ∧ i = .int .i64 k ∧ wc.heap.size ≤ wr.heap.size ∧ wr.ownsRow wc.heap.size 29 2 v k (wcells (fitW q2 k)) ∧ Hid (Below wc.heap.size wc wr)) (fun _ i _ => 6 - (intOf i).toNat)
    case atStart => exact ⟨0, by omega, by omega, rfl, by simp, World.ownsRow_nil _ _ _ _, Below.refl _ _⟩
    case round =>
      obtain ⟨k, hk, hk4, rfl, hsz, hown, HB⟩ := hrel
      by_cases hlt : k < l2
      · by_cases hlt4 : k < 6
        · obtain ⟨b, off, rfl, hbw, hcell⟩ := HG2.out.resolve_left (by omega)
          have hbel := B1.out.trans ((HBN.out.trans (HB.out.mono HBN.out.size)).mono B1.out.size)
          have c0 := (hbel.cell (p := ⟨b, off + k * 2 + 0, none⟩) hbw).trans (hcell k hlt 0 (by omega))
          have c1 := (hbel.cell (p := ⟨b, off + k * 2 + 1, none⟩) hbw).trans (hcell k hlt 1 (by omega))
          have HN := Lib.hid (fitW_succ q2 k)
          have HO := Lib.hid hown
          simp only [Nat.add_zero] at c0
          clear hcell hown hbel
          generalize q2 k 0 = x0 at *
          generalize q2 k 1 = x1 at *
          go_wp2_with fail
          go_region_law (first | (go_simp; go_at_call 7; refine (HPC.out _ _).mono ?_; rintro e w2 ⟨rfl, rfl⟩) | (refine step_append_lies _ (by rfl) (.tmp 79) (.tmp 92) 22 (by rfl) wc.heap.size 29 i0 (.agg #[.int .i64 0, .int .i64 0]) 2 16 Try.underlying22 hi hI0 hI1 hI2 (by rfl) (by decide) _ _ _ (by rfl) (World.ownsRow.alloc (w := wr.drew) HO.out _) ⟨wr.heap.size, 0, none⟩ 1 1 [.int .i64 (pickZ x0 8), .int .i64 x1] (by rfl) (by rfl) (two_news wr.drew _ _ _ _ rfl) (two_cell1 _ _) (by decide) (by unfold maxLen; omega) (by omega) (by simp; omega) _ rfl ?_; intro g2 c2 w2 hown2 hgrow hat hlt2))
          all_goals
            have HB2 : Hid (Below wc.heap.size wc w2) := HB.out.trans ((((Below.refl _ _).drew).alloc (by simp; omega) _).grown hgrow (by simp; omega) (fun j hj => (HO.out.lt j hj).1))
            have hz4 := HB2.out.size
            rw [← HN.out] at hown2
            have HO2 := Lib.hid hown2
            clear hown2 hgrow hat
            go_wp2_with fail
            go_roundw
            case rel => exact ⟨k + 1, by omega, by omega, by go_num, by omega, HO2.out, HB2.out⟩
            case measure => simp [intOf]; omega
        · obtain rfl : k = 6 := by omega
          have HO := Lib.hid hown
          clear hown
          go_wp2_with fail
          go_meet
          case rel => exact ⟨6, by omega, HO.out, HB.out⟩
      · obtain rfl : k = l2 := by omega
        have HO := Lib.hid hown
        clear hown
        go_wp2_with fail
        go_meet
        case rel => exact ⟨_, by omega, HO.out, HB.out⟩
  obtain ⟨M, hM6, hownM, HBM⟩ := hcut
  obtain ⟨ua, uc, rfl⟩ := ownAt_form hownM
  rename_i w0
  have HROW2 := Lib.hid (HROW1.out.new (RowH.good _ _) (⟨fun b => (Value.slice ua M uc).ownBlock = some b, ⟨by rw [fitW_len]; exact own_base hownM (fun _ _ => Nat.zero_le _), fun _ => Iff.rfl⟩, HBM.out, fun b h => (hownM.lt b h).1⟩ : AtW _ (RowH (.slice ua M uc) (fitW q2 M)) wc))
  have HLX : Hid ((fitW q1 N).length = N) := fitW_len q1 N
  have HLY : Hid ((fitW q2 M).length = M) := fitW_len q2 M
  have HCX : Hid (∀ y ∈ fitW q1 N, 0 ≤ y.1 ∧ y.1 < ((8 : Nat) : Int)) := fitW_ok q1 N
  have HCY : Hid (∀ y ∈ fitW q2 M, 0 ≤ y.1 ∧ y.1 < ((8 : Nat) : Int)) := fitW_ok q2 M
  have HIX : Hid (∀ y ∈ fitW q1 N, I64 y.2) := fitW_val q1 HQ1.out N
  have HIY : Hid (∀ y ∈ fitW q2 M, I64 y.2) := fitW_val q2 HQ2.out M
  have HNX := Lib.hid (fun wx (hA : ArgW wx (.slice va N vc) (fitW q1 N)) => bakNew_any 0 n 0 0 true 0 (.slice none 0 0) 1 (.slice va N vc) (fitW q1 N) wx hA (by omega) hn2 (by decide) (by decide) (by rw [fitW_len]; omega))
  have HNY := Lib.hid (fun wx (hA : ArgW wx (.slice ua M uc) (fitW q2 M)) => bakNew_any 0 n 0 0 true 0 (.slice none 0 0) 2 (.slice ua M uc) (fitW q2 M) wx hA (by omega) hn2 (by decide) (by decide) (by rw [fitW_len]; omega))
  clear hownM HBM HBN HROW1 HG1 HG2 HQ1 HQ2 hi hI0 hI1 hI2 HPC
  generalize fitW q1 N = Wx at *
  generalize fitW q2 M = Wy at *
  go_wp2_with fail
  refine (HM.out wc).mono ?_; rintro e w2 ⟨p, rfl, h⟩
  have H2 := Lib.hid (HROW2.out.new ((RowH.good _ _).star (RowH.good _ _)) h)
  clear h HM HROW2
  go_wp2_with fail
  refine (HNX.out w2 (by
    obtain ⟨F, h⟩ := H2.out.has.left.left
    rw [← HLX.out] at h ⊢
    exact h.arg)).mono ?_
  rintro e w3 hq
  obtain ⟨_, x, lx, rfl, h⟩ := hq.resolve_right (fun k => k.1 (fun y hy => ⟨(HCX.out y hy).1, by have := (HCX.out y hy).2; omega⟩))
  have H3 := Lib.hid (H2.out.new (((RowH.good _ _).star (RowH.good _ _)).star (MemH.good _ _ _ _)) h)
  clear h hq HNX H2
  go_wp2_with fail
  refine (HNY.out w3 (by
    obtain ⟨F, h⟩ := H3.out.has.left.left.right
    rw [← HLY.out] at h ⊢
    exact h.arg)).mono ?_
  rintro e w4 hq
  obtain ⟨_, y, ly, rfl, h⟩ := hq.resolve_right (fun k => k.1 (fun y hy => ⟨(HCY.out y hy).1, by have := (HCY.out y hy).2; omega⟩))
  obtain ⟨S, hS⟩ : ∃ S : OP, S = ⟨.slice va N vc, .slice ua M uc, p, x, y, n, lx, ly, Wx, Wy⟩ := ⟨_, rfl⟩
  have HSE : Hid (S = ⟨.slice va N vc, .slice ua M uc, p, x, y, n, lx, ly, Wx, Wy⟩) := hS
  have HSO : Hid (OPOk S) := by
    rw [hS]
    exact ⟨⟨hn1, hn2⟩, by rw [HLX.out]; exact hN6, by rw [HLY.out]; exact hM6, HCX.out, HCY.out, HIX.out, HIY.out⟩
  have H4 : Hid (OrdB w1 S 0 [] (newK n true 1 Wx) (newK n true 2 Wy) w4) := by
    rw [hS]
    exact ⟨(H3.out.new ((((RowH.good _ _).star (RowH.good _ _)).star (MemH.good _ _ _ _)).star ((RowH.good _ _).star (BakH.good _ _ _))) h).imp (fun _ h => star_rmxy h), OInv.new hn1 Wx Wy, Nat.le_refl _⟩
  clear h hq HNY H3 hS HCX HCY HIX HIY
  have hSx : S.x = x := by rw [HSE.out]
  have hSy : S.y = y := by rw [HSE.out]
  have hSp : S.p = p := by rw [HSE.out]
  have hn' : S.n = n := by rw [HSE.out]
  have hWx : S.Wx = Wx := by rw [HSE.out]
  have hWy : S.Wy = Wy := by rw [HSE.out]
  have hvl : S.vl = .slice va N vc := by rw [HSE.out]
  have hvk : S.vk = .slice ua M uc := by rw [HSE.out]
  have HSX : Hid (∀ c l bx bY wr, OrdB w1 S c l bx bY wr → c ≤ 2000000 → Calls Try.prog 11 #[.pointer (some ⟨x, 0, none⟩), .pointer (some ⟨p, 0, none⟩), .int .i64 1] wr fun e w' => (∃ z, e = .returned z) ∧ ∃ l' bx', OrdB w1 S (c + 1) l' bx' bY w' ∧ muK 1 bx' ≤ muK 1 bx - 1) := by
    intro c l bx bY wr h hc
    have h := ord_x HSO.out h hc 1
    rw [hSx, hSp] at h
    exact h
  have HSY : Hid (∀ c l bx bY wr, OrdB w1 S c l bx bY wr → c ≤ 2000000 → Calls Try.prog 11 #[.pointer (some ⟨y, 0, none⟩), .pointer (some ⟨p, 0, none⟩), .int .i64 2] wr fun e w' => (∃ z, e = .returned z) ∧ ∃ l' bY', OrdB w1 S (c + 1) l' bx bY' w' ∧ (muK 1 bx = 0 → muK 2 bY' ≤ muK 2 bY - 1)) := by
    intro c l bx bY wr h hc
    have h := ord_y HSO.out h hc 2
    rw [hSy, hSp] at h
    exact h
  have HPEEK : Hid (∀ c l bx bY wr, OrdB w1 S c l bx bY wr → ∀ i : Int, (i = 1 % (n : Int) ∨ i = 2 % (n : Int)) → Calls Try.prog 13 #[.pointer (some ⟨p, 0, none⟩), .agg #[.int .i64 2, .int .i64 i, .int .i64 0]] wr fun e w' => e = .returned (.tuple #[.int .i64 (wordOf l 2 i 0), .int .i64 0]) ∧ OrdB w1 S c l bx bY w') := by
    intro c l bx bY wr h i hi
    have hii : 0 ≤ i ∧ i < (n : Int) := by
      rcases hi with rfl | rfl
      · exact ⟨Int.emod_nonneg _ (by omega), Int.emod_lt_of_pos _ (by omega)⟩
      · exact ⟨Int.emod_nonneg _ (by omega), Int.emod_lt_of_pos _ (by omega)⟩
    have h := ord_peek h 2 i 0 (by rw [hn']; exact .inr (.inl ⟨rfl, hii, rfl⟩))
    rw [hSp] at h
    exact h
  have HPEEK4 : Hid (∀ c l bx bY wr, OrdB w1 S c l bx bY wr → ∀ i : Int, 0 ≤ i ∧ i < ((8 : Nat) : Int) → Calls Try.prog 13 #[.pointer (some ⟨p, 0, none⟩), .agg #[.int .i64 4, .int .i64 i, .int .i64 0]] wr fun e w' => e = .returned (.tuple #[.int .i64 (wordOf l 4 i 0), .int .i64 0]) ∧ OrdB w1 S c l bx bY w') := by
    intro c l bx bY wr h i hi
    have h := ord_peek h 4 i 0 (.inr (.inr (.inr ⟨rfl, hi, rfl⟩)))
    rw [hSp] at h
    exact h
  have HLEFT : Hid (∀ c l bx bY wr, OrdB w1 S c l bx bY wr → Calls Try.prog 12 #[.pointer (some ⟨y, 0, none⟩)] wr fun e w' => e = .returned (.int .i64 bY.left) ∧ OrdB w1 S c l bx bY w') := by
    intro c l bx bY wr h
    have h := ord_left h
    rw [hSy] at h
    exact h
  have HSGX := Lib.hid (ord_sigx H4.out)
  rw [hSx, hWx] at HSGX
  have HME := Lib.hid (fun w => refMeets_any (ofS (Wx.map Prod.fst)) (ofS (Wy.map Prod.fst)) (ofS_wds _) (ofS_wds _) w)
  go_wp2_with fail
  refine HSGX.out.mono ?_; rintro e w5 ⟨rfl, H5⟩
  have HSGY := Lib.hid (ord_sigy H5)
  rw [hSy, hWy] at HSGY
  clear H5 HSGX
  go_wp2_with fail
  refine HSGY.out.mono ?_; rintro e w6 ⟨rfl, H6⟩
  go_wp2_with fail
  refine (HME.out w6).mono ?_; rintro e w7 ⟨rfl, hb⟩
  have H7 := Lib.hid (H6.calm hb)
  clear H6 hb HSGY HME H4
  obtain ⟨sm, hsme⟩ : ∃ sm, (!sigEq (andS (ofS (Wx.map Prod.fst)) (ofS (Wy.map Prod.fst))) noS) = sm := ⟨_, rfl⟩
  have HSME := Lib.hid hsme
  rw [hsme]
  clear hsme
  go_wp2_with fail
  go_loopw [20] (fun i wr => ∃ j : Nat, j ≤ T + 200 ∧ i = .int .i64 j ∧ Hid (∃ l bx bY, OrdB w1 S j l bx bY wr ∧ Prog T j (muK 1 bx) (muK 2 bY))) (fun i _ => T + 200 - (intOf i).toNat)
  case atStart => exact ⟨0, by omega, rfl, _, _, _, H7.out, Prog.start T _ _ (ord_bounds HSO.out H7.out).1 (ord_bounds HSO.out H7.out).2⟩
  case round =>
    obtain ⟨j, hj, rfl, HR⟩ := hrel
    clear H7
    by_cases hlt : j < T + 200
    · as_aux_lemma =>
      have hlti : (j : Int) < (T : Int) + 200 := by omega
      obtain ⟨l, bx, bY, hO, hpg⟩ := HR.out
      have hbd := ord_bounds HSO.out hO
      clear HR
      go_upto_region 26 with (fail)
      go_cut [167] from 147 to 210 (fun v wx => ∃ bb, v = .bool bb ∧ wx = wr ∧ (bb = true → T ≤ j → j % 2 = 0) ∧ (bb = false → T ≤ j → j % 2 = 1))
      case first =>
        by_cases hjT : j < T
        · obtain ⟨b, off, rfl, hbw, hcell⟩ := HG3.out.resolve_left (by omega)
          have hbel := B1.out.trans (hO.below.mono B1.out.size)
          have c0 := (hbel.cell (p := ⟨b, off + j, none⟩) hbw).trans (hcell j hjT)
          clear hcell hbel hO hpg hbd
          cases hq : q3 j
          · rw [hq] at c0
            clear hq
            go_wp2_with fail
            go_meet
            case rel => exact ⟨false, rfl, rfl, (fun h => by cases h), fun _ h => by omega⟩
          · rw [hq] at c0
            clear hq
            go_wp2_with fail
            go_meet
            case rel => exact ⟨true, rfl, rfl, fun _ h => by omega, fun h => by cases h⟩
        · clear hO hpg hbd
          by_cases hpar : j % 2 = 0
          · have e1 : ((j : Int) % 2 == 0) = true := by simp; omega
            go_wp2_with fail
            go_meet
            case rel => exact ⟨true, rfl, rfl, fun _ h => hpar, fun h => by cases h⟩
          · have e1 : ((j : Int) % 2 == 0) = false := by simp; omega
            go_wp2_with fail
            go_meet
            case rel => exact ⟨false, rfl, rfl, (fun h => by cases h), fun _ h => by omega⟩
      obtain ⟨bb, rfl, rfl, hb1, hb0⟩ := hcut
      have HB1 := Lib.hid hb1
      have HB2 := Lib.hid hb0
      clear hb1 hb0
      go_upto_if 167 with (fail)
      go_cut [20] from 147 to 210 (fun v wx => v = .int .i64 j ∧ Hid (∃ l bx bY, OrdB w1 S (j + 1) l bx bY wx ∧ Prog T (j + 1) (muK 1 bx) (muK 2 bY)))
      case first =>
        have HX := Lib.hid (HSX.out _ _ _ _ _ hO (by omega))
        have HY := Lib.hid (HSY.out _ _ _ _ _ hO (by omega))
        clear hO
        cases bb
        · go_wp2_with fail
          refine HY.out.mono ?_; rintro e w5 ⟨⟨z, rfl⟩, hstep⟩
          have hstep : Hid (∃ l bx bY, OrdB w1 S (j + 1) l bx bY w5 ∧ Prog T (j + 1) (muK 1 bx) (muK 2 bY)) := by
            obtain ⟨l', bY', g1, g2⟩ := hstep
            exact ⟨l', _, bY', g1, hpg.y hbd.1 (ord_bounds HSO.out g1).2 g2 (HB2.out (by first | rfl | exact trivial))⟩
          clear HX HY hpg hbd
          go_wp2_with fail
          go_meet
          case rel => exact ⟨rfl, hstep.out⟩
        · go_wp2_with fail
          refine HX.out.mono ?_; rintro e w5 ⟨⟨z, rfl⟩, hstep⟩
          have hstep : Hid (∃ l bx bY, OrdB w1 S (j + 1) l bx bY w5 ∧ Prog T (j + 1) (muK 1 bx) (muK 2 bY)) := by
            obtain ⟨l', bx', g1, g2⟩ := hstep
            exact ⟨l', bx', _, g1, hpg.x hbd.1 hbd.2 g2 (HB1.out (by first | rfl | exact trivial))⟩
          clear HX HY hpg hbd
          go_wp2_with fail
          go_meet
          case rel => exact ⟨rfl, hstep.out⟩
      clear hO hpg hbd HB1 HB2
      obtain ⟨rfl, HSTEP⟩ := hcut
      obtain ⟨l5, b5, y5, H5, hpr⟩ := HSTEP.out
      have hb5 := OrdB.shows3 HSO.out.n H5
      rw [hWx, hWy, hn'] at hb5
      have HPR := Lib.hid hpr
      have HPK := Lib.hid (HPEEK.out _ _ _ _ _ H5)
      clear hpr H5
      go_wp2_with fail
      refine (HPK.out (1 % (n : Int)) (.inl rfl)).mono ?_; rintro e w6 ⟨rfl, H6⟩
      have HPK2 := Lib.hid (HPEEK.out _ _ _ _ _ H6)
      clear H6 HPK
      go_wp2_with fail
      refine (HPK2.out (2 % (n : Int)) (.inr rfl)).mono ?_; rintro e w7 ⟨rfl, H7⟩
      have HLF := Lib.hid (HLEFT.out _ _ _ _ _ H7)
      clear H7 HPK2
      go_wp2_with fail
      refine HLF.out.mono ?_; rintro e w8 ⟨rfl, H8⟩
      have H8 : Hid (∃ l bx bY, OrdB w1 S (j + 1) l bx bY w8 ∧ Prog T (j + 1) (muK 1 bx) (muK 2 bY)) := ⟨_, _, _, H8, HPR.out⟩
      obtain ⟨hs1, hs2'⟩ := hb5
      have hs2 : sm = true → wordOf l5 2 (1 % (n : Int)) 0 ≠ 3 → y5.left = M := fun h1 h2 => (hs2' (HSME.out.trans h1) h2).trans HLY.out
      clear hs2'
      clear HLF HPR
      generalize wordOf l5 2 (1 % (n : Int)) 0 = P at *
      generalize wordOf l5 2 (2 % (n : Int)) 0 = Q at *
      generalize y5.left = lf at *
      by_cases hP : P = 3
      · subst hP
        clear hs1 hs2
        cases sm
        all_goals
          go_wp2_with fail
          all_goals
            go_roundw
            case rel => exact ⟨j + 1, by omega, by go_num, H8.out⟩
            case measure => simp [intOf]; omega
      · have hQ : (Q == 5) = false := by
          have : ¬ Q = 5 := fun q => hP (hs1 q)
          simpa using this
        have hP2 : (P != 3) = true := by simp [hP]
        cases sm
        · clear hs1 hs2 hP
          go_wp2_with fail
          go_roundw
          case rel => exact ⟨j + 1, by omega, by go_num, H8.out⟩
          case measure => simp [intOf]; omega
        · have hlf : lf = M := hs2 rfl hP
          subst hlf
          clear hs1 hs2 hP
          go_wp2_with fail
          go_roundw
          case rel => exact ⟨j + 1, by omega, by go_num, H8.out⟩
          case measure => simp [intOf]; omega
    · as_aux_lemma =>
      have hje : ¬ (j : Int) < (T : Int) + 200 := by omega
      obtain ⟨l, bx, bY, hO, hpg⟩ := HR.out
      rw [show j = T + 200 by omega] at hpg
      obtain ⟨g1, g2⟩ := hpg.end
      have hx0 := muK_zero hO.2.1.x.ok g1
      have hy0 := muK_zero hO.2.1.y.ok g2
      have hcl := hO.2.1.cells
      rw [hO.2.1.x.ok.no (.inr (.inr hx0)), hO.2.1.y.ok.no (.inr (.inr hy0)), hWx, hWy] at hcl
      have HCL : Hid (∀ c, wordOf l 4 c 0 = lastV (Wx ++ Wy) c) := by
        intro c
        rw [hcl c]; simp
      have HO := Lib.hid hO
      clear hO hpg g1 g2 hx0 hy0 hcl HR HSX HSY HPEEK HLEFT HG3 HSME
      have HRX : Hid (∀ wa (i : Nat) (y : Int × Int), OrdB w1 S j l bx bY wa → Wx[i]? = some y → ∃ g, va = some ⟨g, 0, none⟩ ∧ wa.cell? ⟨g, i * 2, none⟩ = some (.int .i64 y.1) ∧ wa.cell? ⟨g, i * 2 + 1, none⟩ = some (.int .i64 y.2)) := by
        intro wa i y h hy
        have hr := (ord_rows h).1
        rw [hvl, hWx] at hr
        obtain ⟨g, c', hv, q0, q1⟩ := row_at hr hy
        simp only [Value.slice.injEq] at hv
        exact ⟨g, hv.1, q0, q1⟩
      have HRY : Hid (∀ wa (i : Nat) (y : Int × Int), OrdB w1 S j l bx bY wa → Wy[i]? = some y → ∃ g, ua = some ⟨g, 0, none⟩ ∧ wa.cell? ⟨g, i * 2, none⟩ = some (.int .i64 y.1) ∧ wa.cell? ⟨g, i * 2 + 1, none⟩ = some (.int .i64 y.2)) := by
        intro wa i y h hy
        have hr := (ord_rows h).2
        rw [hvk, hWy] at hr
        obtain ⟨g, c', hv, q0, q1⟩ := row_at hr hy
        simp only [Value.slice.injEq] at hv
        exact ⟨g, hv.1, q0, q1⟩
      have HTX : Hid (∀ (r : Nat) (y : Int × Int) (c : Int), Wx[r]? = some y → lastV (Wx.take (r + 1)) c = if y.1 = c then y.2 else lastV (Wx.take r) c) := fun r y c h => by rw [take_next h, lastV_snoc]
      have HTY : Hid (∀ (r : Nat) (y : Int × Int) (c : Int), Wy[r]? = some y → lastV (Wx ++ Wy.take (r + 1)) c = if y.1 = c then y.2 else lastV (Wx ++ Wy.take r) c) := fun r y c h => by rw [take_next h, ← List.append_assoc, lastV_snoc]
      have HEX : Hid (∀ c, lastV (Wx.take N) c = lastV (Wx ++ Wy.take 0) c) := fun c => by rw [← HLX.out]; simp
      have HEY : Hid (∀ c, lastV (Wx ++ Wy.take M) c = wordOf l 4 c 0) := fun c => by rw [HCL.out c, ← HLY.out]; simp
      clear hSx hSy hSp hn' hWx hWy hvl hvk
      go_wp2_with fail
      go_loopw [26] (fun cc wr => ∃ c : Nat, c ≤ 8 ∧ cc = .int .i64 c ∧ Hid (OrdB w1 S j l bx bY wr)) (fun cc _ => 8 - (intOf cc).toNat)
      case atStart => exact ⟨0, by omega, rfl, HO.out⟩
      case round =>
        obtain ⟨c, hc8, rfl, HC⟩ := hrel
        clear HO
        by_cases hlt8 : c < 8
        · have hlt8i : (c : Int) < 8 := by omega
          have hd8 : decide ((c : Int) < 8) = true := decide_eq_true hlt8i
          go_wp2_with fail
          go_loopw [27, 28] (fun vv i wr => ∃ r : Nat, r ≤ N ∧ i = .int .i64 r ∧ vv = .int .i64 (lastV (Wx.take r) c) ∧ Hid (OrdB w1 S j l bx bY wr)) (fun _ i _ => N - (intOf i).toNat)
          case atStart => exact ⟨0, by omega, rfl, rfl, HC.out⟩
          case round =>
            obtain ⟨r, hr, rfl, rfl, HQ⟩ := hrel
            clear HC
            by_cases hltr : r < N
            · obtain ⟨⟨y1, y2⟩, hy⟩ : ∃ y, Wx[r]? = some y := ⟨_, List.getElem?_eq_getElem (by rw [HLX.out]; exact hltr)⟩
              obtain ⟨g, rfl, f0, f1⟩ := HRX.out _ _ _ HQ.out hy
              have HLV := Lib.hid (HTX.out _ _ c hy)
              have hrN : (r : Int) < N := by omega
              clear hy
              by_cases he : y1 = c
              · subst he
                rw [if_pos rfl] at HLV
                go_wp2_with fail
                go_roundw
                case rel => exact ⟨r + 1, by omega, by go_num, by rw [HLV.out], HQ.out⟩
                case measure => simp [intOf]; omega
              · rw [if_neg he] at HLV
                have e9 : (y1 == (c : Int)) = false := by simp [he]
                clear he
                go_wp2_with fail
                go_roundw
                case rel => exact ⟨r + 1, by omega, by go_num, by rw [HLV.out], HQ.out⟩
                case measure => simp [intOf]; omega
            · obtain rfl : r = N := by omega
              rw [HEX.out]
              go_wp2_with fail
              go_loopw [27, 29] (fun vv i wr => ∃ t : Nat, t ≤ M ∧ i = .int .i64 t ∧ vv = .int .i64 (lastV (Wx ++ Wy.take t) c) ∧ Hid (OrdB w1 S j l bx bY wr)) (fun _ i _ => M - (intOf i).toNat)
              case atStart => exact ⟨0, by omega, rfl, rfl, HQ.out⟩
              case round =>
                obtain ⟨t, ht, rfl, rfl, HZ⟩ := hrel
                clear HQ
                by_cases hltt : t < M
                · obtain ⟨⟨y1, y2⟩, hy⟩ : ∃ y, Wy[t]? = some y := ⟨_, List.getElem?_eq_getElem (by rw [HLY.out]; exact hltt)⟩
                  obtain ⟨g, rfl, f0, f1⟩ := HRY.out _ _ _ HZ.out hy
                  have HLV := Lib.hid (HTY.out _ _ c hy)
                  have htM : (t : Int) < M := by omega
                  clear hy
                  by_cases he : y1 = c
                  · subst he
                    rw [if_pos rfl] at HLV
                    go_wp2_with fail
                    go_roundw
                    case rel => exact ⟨t + 1, by omega, by go_num, by rw [HLV.out], HZ.out⟩
                    case measure => simp [intOf]; omega
                  · rw [if_neg he] at HLV
                    have e9 : (y1 == (c : Int)) = false := by simp [he]
                    clear he
                    go_wp2_with fail
                    go_roundw
                    case rel => exact ⟨t + 1, by omega, by go_num, by rw [HLV.out], HZ.out⟩
                    case measure => simp [intOf]; omega
                · obtain rfl : t = M := by omega
                  have HPK := Lib.hid (HPEEK4.out _ _ _ _ _ HZ.out c ⟨by omega, by omega⟩)
                  rw [HEY.out]
                  clear HZ
                  go_wp2_with fail
                  refine HPK.out.mono ?_; rintro e w8 ⟨rfl, h⟩
                  have H8 := Lib.hid h
                  clear h HPK
                  generalize wordOf l 4 (c : Int) 0 = vv at *
                  go_wp2_with fail
                  go_roundw
                  case rel => exact ⟨c + 1, by omega, by go_num, H8.out⟩
                  case measure => simp [intOf]; omega
        · obtain rfl : c = 8 := by omega
          have HBE := Lib.hid (B1.out.trans (HC.out.below.mono B1.out.size))
          go_wp2_with fail
          go_ret
          exact ⟨rfl, HBE.out⟩
end Go.Proofs.Ytlmnljijpgpmiaa
