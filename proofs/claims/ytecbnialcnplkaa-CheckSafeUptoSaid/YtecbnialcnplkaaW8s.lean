/- Layer 8: the walk of CheckSafe. -/
import Derived.Test.YtecbnialcnplkaaCGr
import Derived.Test.YtecbnialcnplkaaW8
import Derived.Test.YtecbnialcnplkaaSGb
import Derived.Test.YtecbnialcnplkaaRT
import Derived.StillTailTactics
namespace Go.Proofs.Ytecbnialcnplkaa
open Go.RowKit
set_option linter.unusedVariables false
theorem stepK_kinds (n : Nat) (fr : Int) (rs : Nat → Int) (last : Bool) (s : CS) (v : Int) : ((stepK n fr rs last s v).2.1 = 1 ∧ (stepK n fr rs last s v).2.2 = 0) ∨ ((stepK n fr rs last s v).2.1 = 2 ∧ (stepK n fr rs last s v).2.2 = 0) ∨ ((stepK n fr rs last s v).2.1 = 3 ∧ (stepK n fr rs last s v).2.2 = 0) ∨ ((stepK n fr rs last s v).2.1 = 4 ∧ (stepK n fr rs last s v).2.2 = 3) ∨ ((stepK n fr rs last s v).2.1 = 4 ∧ (stepK n fr rs last s v).2.2 = 4) := by
  unfold stepK
  repeat' split
  all_goals simp
theorem SafeInv.rng {n : Nat} {fr : Int} {rs : Nat → Int} {g : GS} {s : CS} (h : SafeInv n fr rs g s) (h4 : s.st < 4) (hb : g.es.length ≤ 100000000) : KRng s := by
  obtain ⟨a, b, c, d, h⟩ := h
  rcases h with ⟨k1, k2⟩ | ⟨k1, k2, k3, k4, k5, kz, k6⟩ | ⟨k1, k2, k3, k4, k5, k6, kz, ⟨m, k7, k8, k9⟩, k10⟩ | ⟨k1, k2, k3, k4⟩ | ⟨k1, k2, k3⟩ | h
  · exact .inl (.inl k1)
  · exact .inr (.inl ⟨k1, by omega, by omega⟩)
  · exact .inr (.inr ⟨k1, ⟨by omega, by omega⟩, m, k8, k7⟩)
  · exact .inl (.inr k1)
  · omega
  · omega
theorem SafeInv.new {n : Nat} {rs : Nat → Int} {g : GS} {fr : Int} (h : fr = g.done) : SafeInv n fr rs g ⟨0, fr, 0, 0, 0⟩ := ⟨by omega, by omega, Int.le_refl _, by simp only; omega, .inl ⟨rfl, rfl⟩⟩
/-- A step of check over a ring that grows, beside whatever. -/
theorem safe_step {w0 wr : World} {p gp x n cells k : Nat} {l : List Acc} {g : GS} {fr : Int} {rs : Nat → Int} {st : CS} {B : HP} (gb : Good B) (hn1 : 1 ≤ n) (hn2 : n ≤ 16) (hrs : Wds rs) (h : AtW w0 (Star (Star (MG p gp n cells l g) (ChkH x n fr rs true st)) B) wr) (ho : RingOk n cells g l k) (hi : SafeInv n fr rs g st) (hk : k ≤ 10000000) :
    Calls Try.prog 13 #[.pointer (some ⟨x, 0, none⟩), .pointer (some ⟨p, 0, none⟩), .int .i64 1] wr fun e w' => ∃ kd er bo l' st', e = .returned (ansV kd er 0 bo) ∧ AtW w0 (Star (Star (MG p gp n cells l' g) (ChkH x n fr rs true st')) B) w' ∧ RingOk n cells g l' (k + 1) ∧ SafeInv n fr rs g st' ∧
      ((kd = 0 ∧ er = 0) ∨ (kd = 1 ∧ er = 0 ∧ g.done < g.es.length) ∨ (kd = 2 ∧ er = 0) ∨ (kd = 3 ∧ er = 0) ∨ (kd = 4 ∧ er = 3 ∧ sharesG g.es fr g.es.length rs) ∨ (kd = 4 ∧ er = 4 ∧ fr + n < g.es.length)) := by
  by_cases hst : 4 ≤ st.st
  · refine ((Looks.left (B := B) (look_swap (B := GrowH gp n g) (chkStep_none p x n cells l n fr rs true st 1 (.inr hst)))).at (((MG.good _ _ _ _ _ _).star (BlkH.good _ _ _)).star gb) h).mono ?_
    rintro e w' ⟨rfl, h⟩
    exact ⟨0, 0, false, l, st, rfl, h, ho.more, hi, .inl ⟨rfl, rfl⟩⟩
  · have h4 : st.st < 4 := by omega
    have hl := ho.len
    have hm := ho.many
    have hS := SafeInv.step ho.inv hn1 hn2 hrs hi h4 true rfl
    have hK := stepK_kinds n fr rs true st (wordOf l (addrK n st).1 (addrK n st).2.1 (addrK n st).2.2)
    obtain ⟨⟨a, b, c⟩, ha⟩ : ∃ t, addrK n st = t := ⟨_, rfl⟩
    obtain ⟨v, hv⟩ : ∃ v, wordOf l a b c = v := ⟨_, rfl⟩
    obtain ⟨⟨st', kd, er⟩, hs⟩ : ∃ t, stepK n fr rs true st v = t := ⟨_, rfl⟩
    have hvI : I64 v := hv ▸ ho.inv.okw a b c
    rw [ha] at hS hK
    simp only at hS hK
    rw [hv, hs] at hS hK
    simp only at hS hK
    obtain ⟨s1, s2, s3, s4⟩ := hS
    refine ((Lifts.left gb (lift_swap (GrowH.good gp n g) (chkStep_go p x n cells l (by omega) hn1 hn2 fr hi.1 rs hrs true st 1 (hi.rng h4 (by omega)) a b c ha v hv hvI st' kd er hs))).at h).mono ?_
    rintro e w' ⟨rfl, h⟩
    refine ⟨kd, er, true, _, st', rfl, h, ho.ld _ _ _ _ _, s1, ?_⟩
    rcases hK with ⟨rfl, rfl⟩ | ⟨rfl, rfl⟩ | ⟨rfl, rfl⟩ | ⟨rfl, rfl⟩ | ⟨rfl, rfl⟩
    · exact .inr (.inl ⟨rfl, rfl, s4 rfl⟩)
    · exact .inr (.inr (.inl ⟨rfl, rfl⟩))
    · exact .inr (.inr (.inr (.inl ⟨rfl, rfl⟩)))
    · exact .inr (.inr (.inr (.inr (.inl ⟨rfl, rfl, s2 rfl⟩))))
    · exact .inr (.inr (.inr (.inr (.inr ⟨rfl, rfl, s3 rfl⟩))))
/-- What is told where it is through. -/
theorem SafeInv.thr {n : Nat} {fr : Int} {rs : Nat → Int} {g : GS} {s : CS} (h : SafeInv n fr rs g s) (h4 : s.st = 4) : ¬ sharesG g.es fr s.seen rs ∧ fr ≤ s.start ∧ s.start ≤ g.done ∧ s.seen ≤ g.es.length := by
  obtain ⟨a, b, c, d, h⟩ := h
  rcases h with h | h | h | h | h | h
  · omega
  · omega
  · omega
  · omega
  · exact ⟨h.2.2, c, d, h.2.1⟩
  · omega
theorem ints_grid {w : World} {a : Option Addr} {len : Nat} {q : Nat → Nat → Int} (h : Grid w a len 1 q) : ∃ zs, IntsAt w a len zs := by
  refine ⟨(List.range len).map (fun i => q i 0), by simp, h.imp id ?_⟩
  rintro ⟨b, off, e, hb, hc⟩
  refine ⟨b, off, e, hb, fun i hi => ?_⟩
  have h := hc i hi 0 (by omega)
  rw [Nat.mul_one, Nat.add_zero] at h
  rw [h]
  congr 2
  simp [List.getD, hi]
abbrev SafeO (p gp x bx n : Nat) (l : List Acc) (g : GS) (fr : Int) (rs : Nat → Int) (st : CS) : HP := Star (Star (MG p gp n 8 l g) (ChkH x n fr rs true st)) (BlkH bx #[.int .u64 (rs 0), .int .u64 (rs 1), .int .u64 (rs 2), .int .u64 (rs 3), .int .u64 (rs 4), .int .u64 (rs 5), .int .u64 (rs 6), .int .u64 (rs 7)] 42)
theorem SafeO.good (p gp x bx n : Nat) (l : List Acc) (g : GS) (fr : Int) (rs : Nat → Int) (st : CS) : Good (SafeO p gp x bx n l g fr rs st) := ((MG.good _ _ _ _ _ _).star (BlkH.good _ _ _)).star (BlkH.good _ _ _)
set_option maxHeartbeats 8000000 in
set_option maxRecDepth 100000 in
theorem checkSafe_law {w : World} (raw : Int) (a0 : Option Addr) (l0 c0 : Nat) (q0 : Nat → Nat → Int) (a1 : Option Addr) (l1 c1 : Nat) (k1 : Nat → Int) (s1 : Nat → Option Addr × Nat × Nat) (q1 : Nat → Nat → Nat → Int) (a2 : Option Addr) (l2 c2 : Nat) (k2 : Nat → Int) (s2 : Nat → Option Addr × Nat × Nat) (q2 : Nat → Nat → Nat → Int)
    (hg0 : Grid w a0 l0 1 q0) (hl0 : l0 ≤ c0) (hm0 : c0 ≤ maxLen) (ht1 : Turns w a1 l1 k1 s1 q1) (ht2 : Turns w a2 l2 k2 s2 q2) (hb1 : l1 ≤ 1048576) (hb2 : l2 ≤ 1048576) :
    Calls Try.prog 3 #[.agg #[.int .i64 raw, .slice a0 l0 c0, .slice a1 l1 c1, .slice a2 l2 c2]] w fun e w' => e = .returned (.bool true) ∧ Below w.heap.size w w' := by
  obtain ⟨zs, hz⟩ := ints_grid hg0
  have HZ := Lib.hid hz
  have HT1 := Lib.hid ht1
  have HT2 := Lib.hid ht2
  unfold maxLen at hm0
  have hp := pickZ_range raw 16 (by decide)
  obtain ⟨n, hn⟩ : ∃ n : Nat, 1 + pickZ raw 16 = n := ⟨(1 + pickZ raw 16).toNat, by omega⟩
  have hn1 : 1 ≤ n := by omega
  have hn2 : n ≤ 16 := by omega
  have HP := Lib.hid (pick_any raw 16 (by decide) (by decide))
  generalize pickZ raw 16 = pz at *
  obtain rfl : pz = (n : Int) - 1 := by omega
  have HB0 : Hid (∀ a, Below w.heap.size w (w.alloc a)) := fun a => (Below.refl _ _).alloc (Nat.le_refl _) _
  have e0 : (1 : Int) + ((n : Int) - 1) = n := by omega
  have HM := Lib.hid (memNew_any 8 n (by decide) (by decide) hn1 (by omega))
  have HRS : Hid (Wds (ofS zs)) := ofS_wds zs
  have HOF := Lib.hid (fun w => refOf_any a0 l0 c0 zs w)
  generalize ofS zs = rs at *
  clear hg0 hz ht1 ht2 hp hn
  go_enter Try.func3, Try.ntmps3
  go_wp2_with fail
  refine (shown8_any _).mono ?_; rintro e w1 ⟨rfl, hb⟩
  have B1 := Lib.hid ((HB0.out _).trans (hb.mono (by simp)))
  clear hb HB0
  go_wp2_with fail
  refine (HP.out w1).mono ?_; rintro e w' ⟨rfl, rfl⟩
  go_wp2_with fail
  refine (HM.out w1).mono ?_; rintro e w2 ⟨p, rfl, h⟩
  have HA1 : Hid (AtW w1 (MG p w2.heap.size n 8 [] ⟨[], 0, 0⟩) (w2.alloc (.cells #[.int .i64 n, .slice none 0 0, .int .i64 0, .int .i64 0] 35))) := h.new (MemH.good _ _ _ _) (grow_new w2 n)
  clear h HM HP
  go_wp2_with fail
  go_loopw [12] (fun i wr => ∃ k : Nat, k ≤ l1 ∧ i = .int .i64 k ∧ Hid (∃ l g, AtW w1 (MG p w2.heap.size n 8 l g) wr ∧ RingOk n 8 g l k)) (fun i _ => l1 - (intOf i).toNat)
  case atStart => exact ⟨0, by omega, rfl, [], ⟨[], 0, 0⟩, HA1.out, RingOk.nil _ _⟩
  case round =>
    obtain ⟨k, hk, rfl, HE⟩ := hrel
    clear HA1
    by_cases hlt : k < l1
    · obtain ⟨l, g, g1, g2⟩ := HE.out
      obtain ⟨b, off, rfl, t0, t1, hgr, hsl, hki, hq⟩ := turn_at HT1.out (B1.out.trans (g1.below.mono B1.out.size)) hlt
      have HQ := Lib.hid hq
      have G2 := Lib.hid g2
      have HACT := Lib.hid (act_at (g1.calm (MG.good _ _ _ _ _ _) ((Below.refl _ _).drew)) g2 hn1 hn2 (by decide) (by decide) (by omega) (k1 k) (s1 k).1 (s1 k).2.1 (s1 k).2.2 (q1 k) hsl (hgr.below ((Below.refl _ _).drew)))
      clear HE g1 g2 hgr hq hki
      go_wp2_with fail
      go_still_tail 12, (by kernel_rfl)
      change wpList _ _ _ _ _ wr.drew
      go_wp2_with fail
      refine HACT.out.mono ?_; rintro e w4 ⟨rfl, h⟩
      have H4 : Hid (∃ l g, AtW w1 (MG p w2.heap.size n 8 l g) w4 ∧ RingOk n 8 g l (k + 1)) := ⟨_, _, h, (G2.out.act hn1 (by decide) (by omega) (k1 k) (q1 k) _ HQ.out).1⟩
      clear h HACT t0 t1 G2
      go_wp2_with fail
      go_roundw
      case rel => exact ⟨k + 1, by omega, by go_num, H4.out⟩
      case measure => simp [intOf]; omega
    · obtain rfl : k = l1 := by omega
      obtain ⟨l, g, g1, g2⟩ := HE.out
      obtain ⟨FG, hG⟩ := g1.has.right
      obtain ⟨la, lc, hR⟩ := hG.read
      obtain ⟨p0, p1, p2, p3, fz⟩ := four_cells hR.hp
      have HI : Hid (SafeInv n g.done rs g ⟨0, g.done, 0, 0, 0⟩) := SafeInv.new rfl
      have hfr0 : (0 : Int) ≤ g.done := by omega
      have BW := Lib.hid (B1.out.trans (g1.below.mono B1.out.size))
      have HOFW := Lib.hid (HOF.out wr (by
        obtain ⟨z1, z2⟩ := HZ.out
        exact ⟨z1, z2.imp id fun ⟨b, off, e, hb, hc⟩ => ⟨b, off, e, Nat.lt_of_lt_of_le hb BW.out.size, fun i hi => (BW.out.cell (p := ⟨b, off + i, none⟩) hb).trans (hc i hi)⟩⟩) (by omega))
      have G1 := Lib.hid g1
      have G2 := Lib.hid g2
      generalize (g.done : Int) = fr at *
      have HC := Lib.hid (chkNew_any n fr rs true (by omega) (by omega) hfr0)
      clear g1 g2 hG hR HE HOF
      go_wp2_with fail
      refine HOFW.out.mono ?_; rintro e w4 ⟨rfl, hb4⟩
      have G4 := Lib.hid ((G1.out.calm (MG.good _ _ _ _ _ _) hb4).box (MG.good _ _ _ _ _ _) #[.int .u64 (rs 0), .int .u64 (rs 1), .int .u64 (rs 2), .int .u64 (rs 3), .int .u64 (rs 4), .int .u64 (rs 5), .int .u64 (rs 6), .int .u64 (rs 7)] 42)
      obtain ⟨d0, d1, d2, d3, d4, d5, d6, d7, dz⟩ := blk_facts G4.out.has.right.blk
      clear p0 p1 p2 p3 fz G1 hb4 HOFW
      go_wp2_with fail
      refine (HC.out _).mono ?_; rintro e w5 ⟨x, rfl, h⟩
      have G5 : Hid (AtW w1 (SafeO p w2.heap.size x w4.heap.size n l g fr rs ⟨0, fr, 0, 0, 0⟩) w5) := (G4.out.new ((MG.good _ _ _ _ _ _).star (BlkH.good _ _ _)) h).imp fun _ h => h.swap
      clear h d0 d1 d2 d3 d4 d5 d6 d7 dz G4 HC
      go_wp2_with fail
      go_loopw [17] (fun i wr => ∃ j : Nat, j ≤ l2 ∧ i = .int .i64 j ∧ Hid (∃ l g st, AtW w1 (SafeO p w2.heap.size x w4.heap.size n l g fr rs st) wr ∧ RingOk n 8 g l (k + j) ∧ SafeInv n fr rs g st)) (fun i _ => l2 - (intOf i).toNat)
      case atStart => exact ⟨0, by omega, rfl, l, g, _, G5.out, G2.out, HI.out⟩
      case round =>
        obtain ⟨j, hj, rfl, HE⟩ := hrel
        clear G5 G2 HI BW
        by_cases hltj : j < l2
        · obtain ⟨l, g, st, g1, g2, g3⟩ := HE.out
          obtain ⟨b, off, rfl, t0, t1, hgr, hsl, hki, hq⟩ := turn_at HT2.out (B1.out.trans (g1.below.mono B1.out.size)) hltj
          by_cases hz : k2 j = 0
          · rw [hz] at t0
            have HST := Lib.hid (safe_step (BlkH.good _ _ _) hn1 hn2 HRS.out g1 g2 g3 (by omega))
            clear hgr hq hki HE g1 g2 g3 hz
            go_wp2_with fail
            refine HST.out.mono ?_; rintro e w5 ⟨kd, er, bo, l', st', rfl, m1, m2, m3, m4⟩
            have M1 := Lib.hid (m1.box (SafeO.good _ _ _ _ _ _ _ _ _ _) #[.int .i64 kd, .int .i64 er, .int .i64 0, .bool bo] 48)
            obtain ⟨FG, hG⟩ := M1.out.has.left.left.left.right
            obtain ⟨la, lc, hR⟩ := hG.read
            obtain ⟨p0, p1, p2, p3, fz⟩ := four_cells hR.hp
            obtain ⟨d0, d1, d2, d3, d4, d5, d6, d7, dz⟩ := blk_facts M1.out.has.left.right.blk
            have hes : g.es.length ≤ 100000000 := m2.inv.big
            have hfe : fr ≤ g.es.length := by have := m3.2.1; have := m2.inv.dl; have := m2.inv.ll; omega
            have HSH := Lib.hid ((Looks.left (B := BlkH w5.heap.size #[.int .i64 kd, .int .i64 er, .int .i64 0, .bool bo] 48) (Looks.left (B := BlkH w4.heap.size #[.int .u64 (rs 0), .int .u64 (rs 1), .int .u64 (rs 2), .int .u64 (rs 3), .int .u64 (rs 4), .int .u64 (rs 5), .int .u64 (rs 6), .int .u64 (rs 7)] 42) (Looks.left (B := ChkH x n fr rs true st') (Looks.right (A := MemH p n 8 l') (shares_any w2.heap.size n 8 l' g m2.inv fr g.es.length rs HRS.out))))).at ((SafeO.good _ _ _ _ _ _ _ _ _ _).star (BlkH.good _ _ _)) M1.out)
            have M2 := Lib.hid m2
            have M3 := Lib.hid m3
            clear m1 m2 m3 hG hR HST M1 t0 t1
            obtain ⟨sb, hsb⟩ : ∃ sb, sharesB g.es fr g.es.length rs = sb := ⟨_, rfl⟩
            have hsb1 : sharesG g.es fr g.es.length rs → sb = true := fun h => by rw [← hsb]; exact sharesB_true h
            rw [hsb] at HSH
            clear hsb
            unfold ansV
            rcases m4 with ⟨rfl, rfl⟩ | ⟨rfl, rfl, m5⟩ | ⟨rfl, rfl⟩ | ⟨rfl, rfl⟩ | ⟨rfl, rfl, m5⟩ | ⟨rfl, rfl, m5⟩
            · go_wp2_with fail
              refine HSH.out.mono ?_; rintro e w6 ⟨rfl, h⟩
              have M6 := Lib.hid h
              obtain ⟨FG, hG⟩ := h.has.left.left.left.right
              obtain ⟨la, lc, hR⟩ := hG.read
              clear p0 p1 p2 p3 fz d0 d1 d2 d3 d4 d5 d6 d7 dz
              obtain ⟨p0, p1, p2, p3, fz⟩ := four_cells hR.hp
              obtain ⟨y0, y1, y2, y3, yz⟩ := four_cells h.has.right.blk
              clear h hG hR HSH
              go_wp2_with fail
              go_quiet (fail)
              have M7 := Lib.hid ((M6.out.calm ((SafeO.good _ _ _ _ _ _ _ _ _ _).star (BlkH.good _ _ _)) (below_drewN (Below.refl _ _) nq)).fst)
              clear p0 p1 p2 p3 fz y0 y1 y2 y3 yz M6
              generalize w6.drewN nq = w7 at *
              by_cases hst4 : st'.st = 4
              · obtain ⟨th1, th2, th3, th4⟩ := M3.out.thr hst4
                have HSTA := Lib.hid ((Looks.left (B := BlkH w4.heap.size #[.int .u64 (rs 0), .int .u64 (rs 1), .int .u64 (rs 2), .int .u64 (rs 3), .int .u64 (rs 4), .int .u64 (rs 5), .int .u64 (rs 6), .int .u64 (rs 7)] 42) (Looks.right (A := MG p w2.heap.size n 8 l' g) (chkStart_yes x n fr rs true st' hst4))).at (SafeO.good _ _ _ _ _ _ _ _ _ _) M7.out)
                have hs1 : decide (st'.start < fr) = false := by simp; omega
                have hs2 : decide ((g.done : Int) < st'.start) = false := by simp; omega
                have hs3 : decide ((g.es.length : Int) < st'.seen) = false := by simp; omega
                have TH1 := Lib.hid th1
                clear hst4 th1 th2 th3 th4 M7
                go_wp2_with fail
                refine HSTA.out.mono ?_; rintro e w8 ⟨rfl, h⟩
                have HS2 := Lib.hid ((Looks.left (B := BlkH w4.heap.size #[.int .u64 (rs 0), .int .u64 (rs 1), .int .u64 (rs 2), .int .u64 (rs 3), .int .u64 (rs 4), .int .u64 (rs 5), .int .u64 (rs 6), .int .u64 (rs 7)] 42) (Looks.left (B := ChkH x n fr rs true st') (Looks.right (A := MemH p n 8 l') (shares_any w2.heap.size n 8 l' g M2.out.inv fr st'.seen rs HRS.out)))).at (SafeO.good _ _ _ _ _ _ _ _ _ _) h)
                rw [sharesB_false TH1.out] at HS2
                obtain ⟨d0, d1, d2, d3, d4, d5, d6, d7, dz⟩ := blk_facts h.has.right.blk
                clear h HSTA TH1
                go_wp2_with fail
                refine HS2.out.mono ?_; rintro e w9 ⟨rfl, h⟩
                obtain ⟨FG, hG⟩ := h.has.left.left.right
                obtain ⟨la, lc, hR⟩ := hG.read
                obtain ⟨p0, p1, p2, p3, fz⟩ := four_cells hR.hp
                have H9 : Hid (∃ l g st, AtW w1 (SafeO p w2.heap.size x w4.heap.size n l g fr rs st) w9 ∧ RingOk n 8 g l (k + (j + 1)) ∧ SafeInv n fr rs g st) := ⟨l', g, st', h, M2.out, M3.out⟩
                clear h hG hR HS2 d0 d1 d2 d3 d4 d5 d6 d7 dz
                go_wp2_with fail
                go_roundw
                case rel => exact ⟨j + 1, by omega, by go_num, H9.out⟩
                case measure => simp [intOf]; omega
              · have HSTA := Lib.hid ((Looks.left (B := BlkH w4.heap.size #[.int .u64 (rs 0), .int .u64 (rs 1), .int .u64 (rs 2), .int .u64 (rs 3), .int .u64 (rs 4), .int .u64 (rs 5), .int .u64 (rs 6), .int .u64 (rs 7)] 42) (Looks.right (A := MG p w2.heap.size n 8 l' g) (chkStart_no x n fr rs true st' hst4))).at (SafeO.good _ _ _ _ _ _ _ _ _ _) M7.out)
                clear hst4 M7
                go_wp2_with fail
                refine HSTA.out.mono ?_; rintro e w8 ⟨rfl, h⟩
                have H8 : Hid (∃ l g st, AtW w1 (SafeO p w2.heap.size x w4.heap.size n l g fr rs st) w8 ∧ RingOk n 8 g l (k + (j + 1)) ∧ SafeInv n fr rs g st) := ⟨l', g, st', h, M2.out, M3.out⟩
                clear h HSTA
                go_wp2_with fail
                go_roundw
                case rel => exact ⟨j + 1, by omega, by go_num, H8.out⟩
                case measure => simp [intOf]; omega
            · have hd1 : ((g.done : Int) == g.es.length) = false := by rw [beq_eq_false_iff_ne]; omega
              clear m5
              go_wp2_with fail
              refine HSH.out.mono ?_; rintro e w6 ⟨rfl, h⟩
              have M6 := Lib.hid h
              obtain ⟨FG, hG⟩ := h.has.left.left.left.right
              obtain ⟨la, lc, hR⟩ := hG.read
              clear p0 p1 p2 p3 fz d0 d1 d2 d3 d4 d5 d6 d7 dz
              obtain ⟨p0, p1, p2, p3, fz⟩ := four_cells hR.hp
              obtain ⟨y0, y1, y2, y3, yz⟩ := four_cells h.has.right.blk
              clear h hG hR HSH
              go_wp2_with fail
              go_quiet (fail)
              have M7 := Lib.hid ((M6.out.calm ((SafeO.good _ _ _ _ _ _ _ _ _ _).star (BlkH.good _ _ _)) (below_drewN (Below.refl _ _) nq)).fst)
              clear p0 p1 p2 p3 fz y0 y1 y2 y3 yz M6
              generalize w6.drewN nq = w7 at *
              by_cases hst4 : st'.st = 4
              · obtain ⟨th1, th2, th3, th4⟩ := M3.out.thr hst4
                have HSTA := Lib.hid ((Looks.left (B := BlkH w4.heap.size #[.int .u64 (rs 0), .int .u64 (rs 1), .int .u64 (rs 2), .int .u64 (rs 3), .int .u64 (rs 4), .int .u64 (rs 5), .int .u64 (rs 6), .int .u64 (rs 7)] 42) (Looks.right (A := MG p w2.heap.size n 8 l' g) (chkStart_yes x n fr rs true st' hst4))).at (SafeO.good _ _ _ _ _ _ _ _ _ _) M7.out)
                have hs1 : decide (st'.start < fr) = false := by simp; omega
                have hs2 : decide ((g.done : Int) < st'.start) = false := by simp; omega
                have hs3 : decide ((g.es.length : Int) < st'.seen) = false := by simp; omega
                have TH1 := Lib.hid th1
                clear hst4 th1 th2 th3 th4 M7
                go_wp2_with fail
                refine HSTA.out.mono ?_; rintro e w8 ⟨rfl, h⟩
                have HS2 := Lib.hid ((Looks.left (B := BlkH w4.heap.size #[.int .u64 (rs 0), .int .u64 (rs 1), .int .u64 (rs 2), .int .u64 (rs 3), .int .u64 (rs 4), .int .u64 (rs 5), .int .u64 (rs 6), .int .u64 (rs 7)] 42) (Looks.left (B := ChkH x n fr rs true st') (Looks.right (A := MemH p n 8 l') (shares_any w2.heap.size n 8 l' g M2.out.inv fr st'.seen rs HRS.out)))).at (SafeO.good _ _ _ _ _ _ _ _ _ _) h)
                rw [sharesB_false TH1.out] at HS2
                obtain ⟨d0, d1, d2, d3, d4, d5, d6, d7, dz⟩ := blk_facts h.has.right.blk
                clear h HSTA TH1
                go_wp2_with fail
                refine HS2.out.mono ?_; rintro e w9 ⟨rfl, h⟩
                obtain ⟨FG, hG⟩ := h.has.left.left.right
                obtain ⟨la, lc, hR⟩ := hG.read
                obtain ⟨p0, p1, p2, p3, fz⟩ := four_cells hR.hp
                have H9 : Hid (∃ l g st, AtW w1 (SafeO p w2.heap.size x w4.heap.size n l g fr rs st) w9 ∧ RingOk n 8 g l (k + (j + 1)) ∧ SafeInv n fr rs g st) := ⟨l', g, st', h, M2.out, M3.out⟩
                clear h hG hR HS2 d0 d1 d2 d3 d4 d5 d6 d7 dz
                go_wp2_with fail
                go_roundw
                case rel => exact ⟨j + 1, by omega, by go_num, H9.out⟩
                case measure => simp [intOf]; omega
              · have HSTA := Lib.hid ((Looks.left (B := BlkH w4.heap.size #[.int .u64 (rs 0), .int .u64 (rs 1), .int .u64 (rs 2), .int .u64 (rs 3), .int .u64 (rs 4), .int .u64 (rs 5), .int .u64 (rs 6), .int .u64 (rs 7)] 42) (Looks.right (A := MG p w2.heap.size n 8 l' g) (chkStart_no x n fr rs true st' hst4))).at (SafeO.good _ _ _ _ _ _ _ _ _ _) M7.out)
                clear hst4 M7
                go_wp2_with fail
                refine HSTA.out.mono ?_; rintro e w8 ⟨rfl, h⟩
                have H8 : Hid (∃ l g st, AtW w1 (SafeO p w2.heap.size x w4.heap.size n l g fr rs st) w8 ∧ RingOk n 8 g l (k + (j + 1)) ∧ SafeInv n fr rs g st) := ⟨l', g, st', h, M2.out, M3.out⟩
                clear h HSTA
                go_wp2_with fail
                go_roundw
                case rel => exact ⟨j + 1, by omega, by go_num, H8.out⟩
                case measure => simp [intOf]; omega
            · go_wp2_with fail
              refine HSH.out.mono ?_; rintro e w6 ⟨rfl, h⟩
              have M6 := Lib.hid h
              obtain ⟨FG, hG⟩ := h.has.left.left.left.right
              obtain ⟨la, lc, hR⟩ := hG.read
              clear p0 p1 p2 p3 fz d0 d1 d2 d3 d4 d5 d6 d7 dz
              obtain ⟨p0, p1, p2, p3, fz⟩ := four_cells hR.hp
              obtain ⟨y0, y1, y2, y3, yz⟩ := four_cells h.has.right.blk
              clear h hG hR HSH
              go_wp2_with fail
              go_quiet (fail)
              have M7 := Lib.hid ((M6.out.calm ((SafeO.good _ _ _ _ _ _ _ _ _ _).star (BlkH.good _ _ _)) (below_drewN (Below.refl _ _) nq)).fst)
              clear p0 p1 p2 p3 fz y0 y1 y2 y3 yz M6
              generalize w6.drewN nq = w7 at *
              by_cases hst4 : st'.st = 4
              · obtain ⟨th1, th2, th3, th4⟩ := M3.out.thr hst4
                have HSTA := Lib.hid ((Looks.left (B := BlkH w4.heap.size #[.int .u64 (rs 0), .int .u64 (rs 1), .int .u64 (rs 2), .int .u64 (rs 3), .int .u64 (rs 4), .int .u64 (rs 5), .int .u64 (rs 6), .int .u64 (rs 7)] 42) (Looks.right (A := MG p w2.heap.size n 8 l' g) (chkStart_yes x n fr rs true st' hst4))).at (SafeO.good _ _ _ _ _ _ _ _ _ _) M7.out)
                have hs1 : decide (st'.start < fr) = false := by simp; omega
                have hs2 : decide ((g.done : Int) < st'.start) = false := by simp; omega
                have hs3 : decide ((g.es.length : Int) < st'.seen) = false := by simp; omega
                have TH1 := Lib.hid th1
                clear hst4 th1 th2 th3 th4 M7
                go_wp2_with fail
                refine HSTA.out.mono ?_; rintro e w8 ⟨rfl, h⟩
                have HS2 := Lib.hid ((Looks.left (B := BlkH w4.heap.size #[.int .u64 (rs 0), .int .u64 (rs 1), .int .u64 (rs 2), .int .u64 (rs 3), .int .u64 (rs 4), .int .u64 (rs 5), .int .u64 (rs 6), .int .u64 (rs 7)] 42) (Looks.left (B := ChkH x n fr rs true st') (Looks.right (A := MemH p n 8 l') (shares_any w2.heap.size n 8 l' g M2.out.inv fr st'.seen rs HRS.out)))).at (SafeO.good _ _ _ _ _ _ _ _ _ _) h)
                rw [sharesB_false TH1.out] at HS2
                obtain ⟨d0, d1, d2, d3, d4, d5, d6, d7, dz⟩ := blk_facts h.has.right.blk
                clear h HSTA TH1
                go_wp2_with fail
                refine HS2.out.mono ?_; rintro e w9 ⟨rfl, h⟩
                obtain ⟨FG, hG⟩ := h.has.left.left.right
                obtain ⟨la, lc, hR⟩ := hG.read
                obtain ⟨p0, p1, p2, p3, fz⟩ := four_cells hR.hp
                have H9 : Hid (∃ l g st, AtW w1 (SafeO p w2.heap.size x w4.heap.size n l g fr rs st) w9 ∧ RingOk n 8 g l (k + (j + 1)) ∧ SafeInv n fr rs g st) := ⟨l', g, st', h, M2.out, M3.out⟩
                clear h hG hR HS2 d0 d1 d2 d3 d4 d5 d6 d7 dz
                go_wp2_with fail
                go_roundw
                case rel => exact ⟨j + 1, by omega, by go_num, H9.out⟩
                case measure => simp [intOf]; omega
              · have HSTA := Lib.hid ((Looks.left (B := BlkH w4.heap.size #[.int .u64 (rs 0), .int .u64 (rs 1), .int .u64 (rs 2), .int .u64 (rs 3), .int .u64 (rs 4), .int .u64 (rs 5), .int .u64 (rs 6), .int .u64 (rs 7)] 42) (Looks.right (A := MG p w2.heap.size n 8 l' g) (chkStart_no x n fr rs true st' hst4))).at (SafeO.good _ _ _ _ _ _ _ _ _ _) M7.out)
                clear hst4 M7
                go_wp2_with fail
                refine HSTA.out.mono ?_; rintro e w8 ⟨rfl, h⟩
                have H8 : Hid (∃ l g st, AtW w1 (SafeO p w2.heap.size x w4.heap.size n l g fr rs st) w8 ∧ RingOk n 8 g l (k + (j + 1)) ∧ SafeInv n fr rs g st) := ⟨l', g, st', h, M2.out, M3.out⟩
                clear h HSTA
                go_wp2_with fail
                go_roundw
                case rel => exact ⟨j + 1, by omega, by go_num, H8.out⟩
                case measure => simp [intOf]; omega
            · go_wp2_with fail
              refine HSH.out.mono ?_; rintro e w6 ⟨rfl, h⟩
              have M6 := Lib.hid h
              obtain ⟨FG, hG⟩ := h.has.left.left.left.right
              obtain ⟨la, lc, hR⟩ := hG.read
              clear p0 p1 p2 p3 fz d0 d1 d2 d3 d4 d5 d6 d7 dz
              obtain ⟨p0, p1, p2, p3, fz⟩ := four_cells hR.hp
              obtain ⟨y0, y1, y2, y3, yz⟩ := four_cells h.has.right.blk
              clear h hG hR HSH
              go_wp2_with fail
              go_quiet (fail)
              have M7 := Lib.hid ((M6.out.calm ((SafeO.good _ _ _ _ _ _ _ _ _ _).star (BlkH.good _ _ _)) (below_drewN (Below.refl _ _) nq)).fst)
              clear p0 p1 p2 p3 fz y0 y1 y2 y3 yz M6
              generalize w6.drewN nq = w7 at *
              by_cases hst4 : st'.st = 4
              · obtain ⟨th1, th2, th3, th4⟩ := M3.out.thr hst4
                have HSTA := Lib.hid ((Looks.left (B := BlkH w4.heap.size #[.int .u64 (rs 0), .int .u64 (rs 1), .int .u64 (rs 2), .int .u64 (rs 3), .int .u64 (rs 4), .int .u64 (rs 5), .int .u64 (rs 6), .int .u64 (rs 7)] 42) (Looks.right (A := MG p w2.heap.size n 8 l' g) (chkStart_yes x n fr rs true st' hst4))).at (SafeO.good _ _ _ _ _ _ _ _ _ _) M7.out)
                have hs1 : decide (st'.start < fr) = false := by simp; omega
                have hs2 : decide ((g.done : Int) < st'.start) = false := by simp; omega
                have hs3 : decide ((g.es.length : Int) < st'.seen) = false := by simp; omega
                have TH1 := Lib.hid th1
                clear hst4 th1 th2 th3 th4 M7
                go_wp2_with fail
                refine HSTA.out.mono ?_; rintro e w8 ⟨rfl, h⟩
                have HS2 := Lib.hid ((Looks.left (B := BlkH w4.heap.size #[.int .u64 (rs 0), .int .u64 (rs 1), .int .u64 (rs 2), .int .u64 (rs 3), .int .u64 (rs 4), .int .u64 (rs 5), .int .u64 (rs 6), .int .u64 (rs 7)] 42) (Looks.left (B := ChkH x n fr rs true st') (Looks.right (A := MemH p n 8 l') (shares_any w2.heap.size n 8 l' g M2.out.inv fr st'.seen rs HRS.out)))).at (SafeO.good _ _ _ _ _ _ _ _ _ _) h)
                rw [sharesB_false TH1.out] at HS2
                obtain ⟨d0, d1, d2, d3, d4, d5, d6, d7, dz⟩ := blk_facts h.has.right.blk
                clear h HSTA TH1
                go_wp2_with fail
                refine HS2.out.mono ?_; rintro e w9 ⟨rfl, h⟩
                obtain ⟨FG, hG⟩ := h.has.left.left.right
                obtain ⟨la, lc, hR⟩ := hG.read
                obtain ⟨p0, p1, p2, p3, fz⟩ := four_cells hR.hp
                have H9 : Hid (∃ l g st, AtW w1 (SafeO p w2.heap.size x w4.heap.size n l g fr rs st) w9 ∧ RingOk n 8 g l (k + (j + 1)) ∧ SafeInv n fr rs g st) := ⟨l', g, st', h, M2.out, M3.out⟩
                clear h hG hR HS2 d0 d1 d2 d3 d4 d5 d6 d7 dz
                go_wp2_with fail
                go_roundw
                case rel => exact ⟨j + 1, by omega, by go_num, H9.out⟩
                case measure => simp [intOf]; omega
              · have HSTA := Lib.hid ((Looks.left (B := BlkH w4.heap.size #[.int .u64 (rs 0), .int .u64 (rs 1), .int .u64 (rs 2), .int .u64 (rs 3), .int .u64 (rs 4), .int .u64 (rs 5), .int .u64 (rs 6), .int .u64 (rs 7)] 42) (Looks.right (A := MG p w2.heap.size n 8 l' g) (chkStart_no x n fr rs true st' hst4))).at (SafeO.good _ _ _ _ _ _ _ _ _ _) M7.out)
                clear hst4 M7
                go_wp2_with fail
                refine HSTA.out.mono ?_; rintro e w8 ⟨rfl, h⟩
                have H8 : Hid (∃ l g st, AtW w1 (SafeO p w2.heap.size x w4.heap.size n l g fr rs st) w8 ∧ RingOk n 8 g l (k + (j + 1)) ∧ SafeInv n fr rs g st) := ⟨l', g, st', h, M2.out, M3.out⟩
                clear h HSTA
                go_wp2_with fail
                go_roundw
                case rel => exact ⟨j + 1, by omega, by go_num, H8.out⟩
                case measure => simp [intOf]; omega
            · obtain rfl := hsb1 m5
              clear m5
              go_wp2_with fail
              refine HSH.out.mono ?_; rintro e w6 ⟨rfl, h⟩
              have M6 := Lib.hid h
              obtain ⟨FG, hG⟩ := h.has.left.left.left.right
              obtain ⟨la, lc, hR⟩ := hG.read
              clear p0 p1 p2 p3 fz d0 d1 d2 d3 d4 d5 d6 d7 dz
              obtain ⟨p0, p1, p2, p3, fz⟩ := four_cells hR.hp
              obtain ⟨y0, y1, y2, y3, yz⟩ := four_cells h.has.right.blk
              clear h hG hR HSH
              go_wp2_with fail
              go_quiet (fail)
              have M7 := Lib.hid ((M6.out.calm ((SafeO.good _ _ _ _ _ _ _ _ _ _).star (BlkH.good _ _ _)) (below_drewN (Below.refl _ _) nq)).fst)
              clear p0 p1 p2 p3 fz y0 y1 y2 y3 yz M6
              generalize w6.drewN nq = w7 at *
              by_cases hst4 : st'.st = 4
              · obtain ⟨th1, th2, th3, th4⟩ := M3.out.thr hst4
                have HSTA := Lib.hid ((Looks.left (B := BlkH w4.heap.size #[.int .u64 (rs 0), .int .u64 (rs 1), .int .u64 (rs 2), .int .u64 (rs 3), .int .u64 (rs 4), .int .u64 (rs 5), .int .u64 (rs 6), .int .u64 (rs 7)] 42) (Looks.right (A := MG p w2.heap.size n 8 l' g) (chkStart_yes x n fr rs true st' hst4))).at (SafeO.good _ _ _ _ _ _ _ _ _ _) M7.out)
                have hs1 : decide (st'.start < fr) = false := by simp; omega
                have hs2 : decide ((g.done : Int) < st'.start) = false := by simp; omega
                have hs3 : decide ((g.es.length : Int) < st'.seen) = false := by simp; omega
                have TH1 := Lib.hid th1
                clear hst4 th1 th2 th3 th4 M7
                go_wp2_with fail
                refine HSTA.out.mono ?_; rintro e w8 ⟨rfl, h⟩
                have HS2 := Lib.hid ((Looks.left (B := BlkH w4.heap.size #[.int .u64 (rs 0), .int .u64 (rs 1), .int .u64 (rs 2), .int .u64 (rs 3), .int .u64 (rs 4), .int .u64 (rs 5), .int .u64 (rs 6), .int .u64 (rs 7)] 42) (Looks.left (B := ChkH x n fr rs true st') (Looks.right (A := MemH p n 8 l') (shares_any w2.heap.size n 8 l' g M2.out.inv fr st'.seen rs HRS.out)))).at (SafeO.good _ _ _ _ _ _ _ _ _ _) h)
                rw [sharesB_false TH1.out] at HS2
                obtain ⟨d0, d1, d2, d3, d4, d5, d6, d7, dz⟩ := blk_facts h.has.right.blk
                clear h HSTA TH1
                go_wp2_with fail
                refine HS2.out.mono ?_; rintro e w9 ⟨rfl, h⟩
                obtain ⟨FG, hG⟩ := h.has.left.left.right
                obtain ⟨la, lc, hR⟩ := hG.read
                obtain ⟨p0, p1, p2, p3, fz⟩ := four_cells hR.hp
                have H9 : Hid (∃ l g st, AtW w1 (SafeO p w2.heap.size x w4.heap.size n l g fr rs st) w9 ∧ RingOk n 8 g l (k + (j + 1)) ∧ SafeInv n fr rs g st) := ⟨l', g, st', h, M2.out, M3.out⟩
                clear h hG hR HS2 d0 d1 d2 d3 d4 d5 d6 d7 dz
                go_wp2_with fail
                go_roundw
                case rel => exact ⟨j + 1, by omega, by go_num, H9.out⟩
                case measure => simp [intOf]; omega
              · have HSTA := Lib.hid ((Looks.left (B := BlkH w4.heap.size #[.int .u64 (rs 0), .int .u64 (rs 1), .int .u64 (rs 2), .int .u64 (rs 3), .int .u64 (rs 4), .int .u64 (rs 5), .int .u64 (rs 6), .int .u64 (rs 7)] 42) (Looks.right (A := MG p w2.heap.size n 8 l' g) (chkStart_no x n fr rs true st' hst4))).at (SafeO.good _ _ _ _ _ _ _ _ _ _) M7.out)
                clear hst4 M7
                go_wp2_with fail
                refine HSTA.out.mono ?_; rintro e w8 ⟨rfl, h⟩
                have H8 : Hid (∃ l g st, AtW w1 (SafeO p w2.heap.size x w4.heap.size n l g fr rs st) w8 ∧ RingOk n 8 g l (k + (j + 1)) ∧ SafeInv n fr rs g st) := ⟨l', g, st', h, M2.out, M3.out⟩
                clear h HSTA
                go_wp2_with fail
                go_roundw
                case rel => exact ⟨j + 1, by omega, by go_num, H8.out⟩
                case measure => simp [intOf]; omega
            · have hd1 : decide ((g.es.length : Int) - fr ≤ n) = false := by simp; omega
              clear m5
              go_wp2_with fail
              refine HSH.out.mono ?_; rintro e w6 ⟨rfl, h⟩
              have M6 := Lib.hid h
              obtain ⟨FG, hG⟩ := h.has.left.left.left.right
              obtain ⟨la, lc, hR⟩ := hG.read
              clear p0 p1 p2 p3 fz d0 d1 d2 d3 d4 d5 d6 d7 dz
              obtain ⟨p0, p1, p2, p3, fz⟩ := four_cells hR.hp
              obtain ⟨y0, y1, y2, y3, yz⟩ := four_cells h.has.right.blk
              clear h hG hR HSH
              go_wp2_with fail
              go_quiet (fail)
              have M7 := Lib.hid ((M6.out.calm ((SafeO.good _ _ _ _ _ _ _ _ _ _).star (BlkH.good _ _ _)) (below_drewN (Below.refl _ _) nq)).fst)
              clear p0 p1 p2 p3 fz y0 y1 y2 y3 yz M6
              generalize w6.drewN nq = w7 at *
              by_cases hst4 : st'.st = 4
              · obtain ⟨th1, th2, th3, th4⟩ := M3.out.thr hst4
                have HSTA := Lib.hid ((Looks.left (B := BlkH w4.heap.size #[.int .u64 (rs 0), .int .u64 (rs 1), .int .u64 (rs 2), .int .u64 (rs 3), .int .u64 (rs 4), .int .u64 (rs 5), .int .u64 (rs 6), .int .u64 (rs 7)] 42) (Looks.right (A := MG p w2.heap.size n 8 l' g) (chkStart_yes x n fr rs true st' hst4))).at (SafeO.good _ _ _ _ _ _ _ _ _ _) M7.out)
                have hs1 : decide (st'.start < fr) = false := by simp; omega
                have hs2 : decide ((g.done : Int) < st'.start) = false := by simp; omega
                have hs3 : decide ((g.es.length : Int) < st'.seen) = false := by simp; omega
                have TH1 := Lib.hid th1
                clear hst4 th1 th2 th3 th4 M7
                go_wp2_with fail
                refine HSTA.out.mono ?_; rintro e w8 ⟨rfl, h⟩
                have HS2 := Lib.hid ((Looks.left (B := BlkH w4.heap.size #[.int .u64 (rs 0), .int .u64 (rs 1), .int .u64 (rs 2), .int .u64 (rs 3), .int .u64 (rs 4), .int .u64 (rs 5), .int .u64 (rs 6), .int .u64 (rs 7)] 42) (Looks.left (B := ChkH x n fr rs true st') (Looks.right (A := MemH p n 8 l') (shares_any w2.heap.size n 8 l' g M2.out.inv fr st'.seen rs HRS.out)))).at (SafeO.good _ _ _ _ _ _ _ _ _ _) h)
                rw [sharesB_false TH1.out] at HS2
                obtain ⟨d0, d1, d2, d3, d4, d5, d6, d7, dz⟩ := blk_facts h.has.right.blk
                clear h HSTA TH1
                go_wp2_with fail
                refine HS2.out.mono ?_; rintro e w9 ⟨rfl, h⟩
                obtain ⟨FG, hG⟩ := h.has.left.left.right
                obtain ⟨la, lc, hR⟩ := hG.read
                obtain ⟨p0, p1, p2, p3, fz⟩ := four_cells hR.hp
                have H9 : Hid (∃ l g st, AtW w1 (SafeO p w2.heap.size x w4.heap.size n l g fr rs st) w9 ∧ RingOk n 8 g l (k + (j + 1)) ∧ SafeInv n fr rs g st) := ⟨l', g, st', h, M2.out, M3.out⟩
                clear h hG hR HS2 d0 d1 d2 d3 d4 d5 d6 d7 dz
                go_wp2_with fail
                go_roundw
                case rel => exact ⟨j + 1, by omega, by go_num, H9.out⟩
                case measure => simp [intOf]; omega
              · have HSTA := Lib.hid ((Looks.left (B := BlkH w4.heap.size #[.int .u64 (rs 0), .int .u64 (rs 1), .int .u64 (rs 2), .int .u64 (rs 3), .int .u64 (rs 4), .int .u64 (rs 5), .int .u64 (rs 6), .int .u64 (rs 7)] 42) (Looks.right (A := MG p w2.heap.size n 8 l' g) (chkStart_no x n fr rs true st' hst4))).at (SafeO.good _ _ _ _ _ _ _ _ _ _) M7.out)
                clear hst4 M7
                go_wp2_with fail
                refine HSTA.out.mono ?_; rintro e w8 ⟨rfl, h⟩
                have H8 : Hid (∃ l g st, AtW w1 (SafeO p w2.heap.size x w4.heap.size n l g fr rs st) w8 ∧ RingOk n 8 g l (k + (j + 1)) ∧ SafeInv n fr rs g st) := ⟨l', g, st', h, M2.out, M3.out⟩
                clear h HSTA
                go_wp2_with fail
                go_roundw
                case rel => exact ⟨j + 1, by omega, by go_num, H8.out⟩
                case measure => simp [intOf]; omega
          · have hne : (k2 j != 0) = true := by simp [hz]
            have HQ := Lib.hid hq
            have G2 := Lib.hid g2
            have G3 := Lib.hid g3
            have HACT := Lib.hid (fun kind => act_at3 (BlkH.good _ _ _) (BlkH.good _ _ _) (g1.calm (SafeO.good _ _ _ _ _ _ _ _ _ _) ((Below.refl _ _).drew)) g2 hn1 hn2 (by decide) (by decide) (by omega) kind (s2 j).1 (s2 j).2.1 (s2 j).2.2 (q2 j) hsl (hgr.below ((Below.refl _ _).drew)))
            clear HE g1 g2 g3 hgr hq hki
            go_wp2_with fail
            go_still_tail 13, (by kernel_rfl)
            change wpList _ _ _ _ _ wr.drew
            go_wp2_with fail
            refine (HACT.out _).mono ?_; rintro e w5 ⟨rfl, h⟩
            have H5 : Hid (∃ l g st, AtW w1 (SafeO p w2.heap.size x w4.heap.size n l g fr rs st) w5 ∧ RingOk n 8 g l (k + (j + 1)) ∧ SafeInv n fr rs g st) := by
              obtain ⟨r1, r2, r3, r4⟩ := G2.out.act hn1 (by decide) (by omega) _ (q2 j) _ HQ.out
              exact ⟨_, _, st, h, r1, G3.out.mono r2 r3 r4⟩
            clear h HACT t0 t1 G2 G3
            go_wp2_with fail
            go_roundw
            case rel => exact ⟨j + 1, by omega, by go_num, H5.out⟩
            case measure => simp [intOf]; omega
        · obtain rfl : j = l2 := by omega
          obtain ⟨l, g, st, g1, g2, g3⟩ := HE.out
          go_wp2_with fail
          go_ret
          exact ⟨rfl, B1.out.trans (g1.below.mono B1.out.size)⟩
end Go.Proofs.Ytecbnialcnplkaa
