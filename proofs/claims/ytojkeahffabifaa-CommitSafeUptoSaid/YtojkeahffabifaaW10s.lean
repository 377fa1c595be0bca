/- Layer 10: the walk of CommitSafe. -/
import Derived.Test.YtojkeahffabifaaW10
import Derived.Test.YtojkeahffabifaaC10f
import Derived.Test.YtojkeahffabifaaCGs
import Derived.Test.YtojkeahffabifaaRT
import Derived.StillTailTactics
namespace Go.Proofs.Ytojkeahffabifaa
open Go.RowKit
set_option linter.unusedVariables false
abbrev SafO (p gp x bx n : Nat) (l : List Acc) (g : GS) (last fr : Int) (rs : Nat → Int) (mu : Bool) (m : MS) : HP := Star (ComO p gp x n 8 l g last fr rs mu m) (BlkH bx #[.int .u64 (rs 0), .int .u64 (rs 1), .int .u64 (rs 2), .int .u64 (rs 3), .int .u64 (rs 4), .int .u64 (rs 5), .int .u64 (rs 6), .int .u64 (rs 7)] 42)
theorem SafO.good (p gp x bx n : Nat) (l : List Acc) (g : GS) (last fr : Int) (rs : Nat → Int) (mu : Bool) (m : MS) : Good (SafO p gp x bx n l g last fr rs mu m) := (ComO.good _ _ _ _ _ _ _ _ _ _ _ _).star (BlkH.good _ _ _)
theorem com_ring {p gp x n cells : Nat} {l : List Acc} {g : GS} {last fr : Int} {rs : Nat → Int} {mu : Bool} {m : MS} {w : World} (h : Has (ComO p gp x n cells l g last fr rs mu m) w) : ∃ FG, GrowH gp n g w FG := by
  obtain ⟨F, xc, h⟩ := h
  have hq : Has (ComQ p gp x n cells l g last fr rs mu m xc) w := ⟨F, h⟩
  exact (Has.left (Has.left hq)).right
theorem com_make {A B C D : HP} {w : World} {F : Nat → Prop} (h : Star (Star A B) (Star C D) w F) : Star (Star (Star A C) D) B w F := by
  exact (h.swap).mapL fun F h => star_as h
set_option maxHeartbeats 16000000 in
set_option maxRecDepth 100000 in
theorem commitSafe_law {w : World} (raw : Int) (mu : Bool) (sta : Int) (a0 : Option Addr) (l0 c0 : Nat) (q0 : Nat → Nat → Int) (a1 : Option Addr) (l1 c1 : Nat) (k1 : Nat → Int) (s1 : Nat → Option Addr × Nat × Nat) (q1 : Nat → Nat → Nat → Int) (a2 : Option Addr) (l2 c2 : Nat) (k2 : Nat → Int) (s2 : Nat → Option Addr × Nat × Nat) (q2 : Nat → Nat → Nat → Int)
    (hg0 : Grid w a0 l0 1 q0) (hl0 : l0 ≤ c0) (hm0 : c0 ≤ maxLen) (ht1 : Turns w a1 l1 k1 s1 q1) (ht2 : Turns w a2 l2 k2 s2 q2) (hb1 : l1 ≤ 1048576) (hb2 : l2 ≤ 1048576) :
    Calls Try.prog 3 #[.agg #[.int .i64 raw, .bool mu, .int .i64 sta, .slice a0 l0 c0, .slice a1 l1 c1, .slice a2 l2 c2]] w fun e w' => e = .returned (.bool true) ∧ Below w.heap.size w w' := by
  obtain ⟨zs, hz⟩ := ints_grid hg0
  have HZ := Lib.hid hz
  have HT1 := Lib.hid ht1
  have HT2 := Lib.hid ht2
  unfold maxLen at hm0
  have hp := pickZ_range raw 16 (by decide)
  obtain ⟨n, hn⟩ : ∃ n : Nat, 1 + pickZ raw 16 = n := ⟨(1 + pickZ raw 16).toNat, by omega⟩
  have hn1 : 1 ≤ n := by omega
  have hn2 : n ≤ 16 := by omega
  have HP := Lib.hid (pick_any raw 16 (by decide) (by decide))
  generalize pickZ raw 16 = pz at *
  obtain rfl : pz = (n : Int) - 1 := by omega
  have hp2 := pickZ_range sta 60 (by decide)
  have HP2 := Lib.hid (pick_any sta 60 (by decide) (by decide))
  obtain ⟨last, hlast⟩ : ∃ q : Int, 1 + pickZ sta 60 = q := ⟨_, rfl⟩
  generalize pickZ sta 60 = pz at *
  obtain rfl : pz = last - 1 := by omega
  have hla1 : 1 ≤ last := by omega
  have hla2 : last ≤ 1099511627776 := by omega
  have e2 : (1 : Int) + (last - 1) = last := by omega
  clear hp2 hlast
  have HB0 : Hid (∀ a, Below w.heap.size w (w.alloc a)) := fun a => (Below.refl _ _).alloc (Nat.le_refl _) _
  have e0 : (1 : Int) + ((n : Int) - 1) = n := by omega
  have HM := Lib.hid (memNew_any 8 n (by decide) (by decide) hn1 (by omega))
  have HRS : Hid (Wds (ofS zs)) := ofS_wds zs
  have HOF := Lib.hid (fun w => refOf_any a0 l0 c0 zs w)
  generalize ofS zs = rs at *
  clear hg0 hz ht1 ht2 hp hn
  go_enter Try.func3, Try.ntmps3
  go_wp2_with fail
  refine (shown10_any _).mono ?_; rintro e w1 ⟨rfl, hb⟩
  have B1 := Lib.hid ((HB0.out _).trans (hb.mono (by simp)))
  clear hb HB0
  go_wp2_with fail
  refine (HP.out w1).mono ?_; rintro e w' ⟨rfl, rfl⟩
  go_wp2_with fail
  refine (HP2.out w1).mono ?_; rintro e w' ⟨rfl, rfl⟩
  go_wp2_with fail
  refine (HM.out w1).mono ?_; rintro e w2 ⟨p, rfl, h⟩
  have HA1 : Hid (AtW w1 (MG p w2.heap.size n 8 [] ⟨[], 0, 0⟩) (w2.alloc (.cells #[.int .i64 n, .slice none 0 0, .int .i64 0, .int .i64 0] 35))) := h.new (MemH.good _ _ _ _) (grow_new w2 n)
  clear h HM HP HP2
  go_wp2_with fail
  go_loopw [15] (fun i wr => ∃ k : Nat, k ≤ l1 ∧ i = .int .i64 k ∧ Hid (∃ l g, AtW w1 (MG p w2.heap.size n 8 l g) wr ∧ RingOk n 8 g l k)) (fun i _ => l1 - (intOf i).toNat)
  case atStart => exact ⟨0, by omega, rfl, [], ⟨[], 0, 0⟩, HA1.out, RingOk.nil _ _⟩
  case round =>
    obtain ⟨k, hk, rfl, HE⟩ := hrel
    clear HA1
    by_cases hlt : k < l1
    · obtain ⟨l, g, g1, g2⟩ := HE.out
      obtain ⟨b, off, rfl, t0, t1, hgr, hsl, hki, hq⟩ := turn_at HT1.out (B1.out.trans (g1.below.mono B1.out.size)) hlt
      have HQ := Lib.hid hq
      have G2 := Lib.hid g2
      have HACT := Lib.hid (act_at (g1.calm (MG.good _ _ _ _ _ _) ((Below.refl _ _).drew)) g2 hn1 hn2 (by decide) (by decide) (by omega) (k1 k) (s1 k).1 (s1 k).2.1 (s1 k).2.2 (q1 k) hsl (hgr.below ((Below.refl _ _).drew)))
      clear HE g1 g2 hgr hq hki
      go_wp2_with fail
      go_still_tail 12, (by kernel_rfl)
      change wpList _ _ _ _ _ wr.drew
      go_wp2_with fail
      refine HACT.out.mono ?_; rintro e w4 ⟨rfl, h⟩
      have H4 : Hid (∃ l g, AtW w1 (MG p w2.heap.size n 8 l g) w4 ∧ RingOk n 8 g l (k + 1)) := ⟨_, _, h, (G2.out.act hn1 (by decide) (by omega) (k1 k) (q1 k) _ HQ.out).1⟩
      clear h HACT t0 t1 G2
      go_wp2_with fail
      go_roundw
      case rel => exact ⟨k + 1, by omega, by go_num, H4.out⟩
      case measure => simp [intOf]; omega
    · obtain rfl : k = l1 := by omega
      obtain ⟨l, g, g1, g2⟩ := HE.out
      obtain ⟨FG, hG⟩ := g1.has.right
      obtain ⟨la, lc, hR⟩ := hG.read
      obtain ⟨p0, p1, p2, p3, fz⟩ := four_cells hR.hp
      have hfr0 : (0 : Int) ≤ g.done := by omega
      have HI : Hid (MInv n g.done rs last mu g ⟨0, 0, 0, ⟨0, g.done, 0, 0, 0⟩⟩) := MInv.new hfr0 (Int.le_refl _)
      have BW := Lib.hid (B1.out.trans (g1.below.mono B1.out.size))
      have HOFW := Lib.hid (HOF.out wr (by
        obtain ⟨z1, z2⟩ := HZ.out
        exact ⟨z1, z2.imp id fun ⟨b, off, e, hb, hc⟩ => ⟨b, off, e, Nat.lt_of_lt_of_le hb BW.out.size, fun i hi => (BW.out.cell (p := ⟨b, off + i, none⟩) hb).trans (hc i hi)⟩⟩) (by omega))
      have G1 := Lib.hid g1
      have G2 := Lib.hid g2
      generalize (g.done : Int) = fr at *
      have HC := Lib.hid (fun c5 c6 => comNew_any 0 n 0 last mu c5 c6 fr rs (by omega) (by omega) hfr0 hla1 hla2)
      clear g1 g2 hG hR HE HOF
      go_wp2_with fail
      refine HOFW.out.mono ?_; rintro e w4 ⟨rfl, hb4⟩
      have G4 := Lib.hid ((G1.out.calm (MG.good _ _ _ _ _ _) hb4).box (MG.good _ _ _ _ _ _) #[.int .u64 (rs 0), .int .u64 (rs 1), .int .u64 (rs 2), .int .u64 (rs 3), .int .u64 (rs 4), .int .u64 (rs 5), .int .u64 (rs 6), .int .u64 (rs 7)] 42)
      obtain ⟨d0, d1, d2, d3, d4, d5, d6, d7, dz⟩ := blk_facts G4.out.has.right.blk
      clear p0 p1 p2 p3 fz G1 hb4 HOFW
      go_wp2_with fail
      refine (HC.out _ _ _).mono ?_; rintro e w5 ⟨x, xc, rfl, h⟩
      have G5 : Hid (AtW w1 (SafO p w2.heap.size x w4.heap.size n l g last fr rs mu ⟨0, 0, 0, ⟨0, fr, 0, 0, 0⟩⟩) w5) := (G4.out.new ((MG.good _ _ _ _ _ _).star (BlkH.good _ _ _)) h).imp fun _ h => (com_make h).mapL fun _ h => ⟨xc, h⟩
      clear h d0 d1 d2 d3 d4 d5 d6 d7 dz G4 HC
      go_wp2_with fail
      go_loopw [20] (fun i wr => ∃ j : Nat, j ≤ l2 ∧ i = .int .i64 j ∧ Hid (∃ l g m, AtW w1 (SafO p w2.heap.size x w4.heap.size n l g last fr rs mu m) wr ∧ RingOk n 8 g l (k + j) ∧ MInv n fr rs last mu g m)) (fun i _ => l2 - (intOf i).toNat)
      case atStart => exact ⟨0, by omega, rfl, l, g, _, G5.out, G2.out, HI.out⟩
      case round =>
        obtain ⟨j, hj, rfl, HE⟩ := hrel
        clear G5 G2 HI BW
        by_cases hltj : j < l2
        · obtain ⟨l, g, m, g1, g2, g3⟩ := HE.out
          obtain ⟨b, off, rfl, t0, t1, hgr, hsl, hki, hq⟩ := turn_at HT2.out (B1.out.trans (g1.below.mono B1.out.size)) hltj
          by_cases hz : k2 j = 0
          · rw [hz] at t0
            obtain ⟨FG, hG⟩ := com_ring g1.has.left
            obtain ⟨la, lc, hR⟩ := hG.read
            obtain ⟨p0, p1, p2, p3, fz⟩ := four_cells hR.hp
            have hes : g.es.length ≤ 100000000 := g2.inv.big
            have hfe : fr ≤ g.es.length ∧ 0 ≤ fr ∧ (g.done : Int) ≤ g.es.length := by have := g3.2.1; have := g3.1; have := g2.inv.dl; have := g2.inv.ll; omega
            have HST := Lib.hid (com_step (BlkH.good _ _ _) hn1 hn2 HRS.out hla2 g1 g2 g3 (by omega))
            have GI := Lib.hid g2.inv
            clear hgr hq hki HE g1 g2 g3 hz hG hR
            go_wp2_with fail
            refine HST.out.mono ?_; rintro e w5 ⟨kd, er, va, bo, l', m', rfl, m1, m2⟩
            have M1 := Lib.hid (m1.box (SafO.good _ _ _ _ _ _ _ _ _ _ _ _) #[.int .i64 kd, .int .i64 er, .int .i64 va, .bool bo] 51)
            obtain ⟨d0, d1, d2, d3, d4, d5, d6, d7, dz⟩ := blk_facts M1.out.has.left.right.blk
            have HSH := Lib.hid ((Looks.left (B := BlkH w5.heap.size #[.int .i64 kd, .int .i64 er, .int .i64 va, .bool bo] 51) (Looks.left (B := BlkH w4.heap.size #[.int .u64 (rs 0), .int .u64 (rs 1), .int .u64 (rs 2), .int .u64 (rs 3), .int .u64 (rs 4), .int .u64 (rs 5), .int .u64 (rs 6), .int .u64 (rs 7)] 42) (ExH.look fun xc => Looks.left (B := ComH x xc n last fr rs mu m'.st m'.seen m'.stamp) (Looks.left (B := ChkH xc n fr rs false m'.s) (Looks.right (A := MemH p n 8 l') (shares_any w2.heap.size n 8 l g GI.out fr g.es.length rs HRS.out)))))).at ((SafO.good _ _ _ _ _ _ _ _ _ _ _ _).star (BlkH.good _ _ _)) M1.out)
            clear HST M1 t0 t1 m1 p0 p1 p2 p3 fz
            obtain ⟨sb, hsb⟩ : ∃ sb, sharesB g.es fr g.es.length rs = sb := ⟨_, rfl⟩
            have hsb1 : sharesG g.es fr g.es.length rs → sb = true := fun h => by rw [← hsb]; exact sharesB_true h
            have hsb0 : ¬ sharesG g.es fr g.es.length rs → sb = false := fun h => by rw [← hsb]; exact sharesB_false h
            rw [hsb] at HSH
            clear hsb
            unfold ansV
            rcases m2 with ⟨hs3, hMI, hRO, rfl, m4⟩ | ⟨hs3, rfl, rfl, rfl, hsm, hwd, hgd, hns, hroom, hnone, hlst⟩
            · have e1 : (if m'.st = 3 then m'.stamp else 0) = 0 := if_neg hs3
              have e3 : (m'.st == 3) = false := by simp [hs3]
              have e4 : wordOf l' 1 0 0 = g.es.length := hRO.inv.newest
              have M2 := Lib.hid hMI
              have M3 := Lib.hid hRO
              clear hMI hRO hs3
              rcases m4 with ⟨rfl, rfl⟩ | ⟨rfl, rfl, m5⟩ | ⟨rfl, rfl⟩ | ⟨rfl, rfl, m5⟩ | ⟨rfl, rfl, m5⟩ | ⟨rfl, rfl, m5⟩
              · as_aux_lemma =>
                  go_wp2_with fail
                  refine HSH.out.mono ?_; rintro e w6 ⟨rfl, h⟩
                  have M6 := Lib.hid h
                  obtain ⟨FG, hG⟩ := com_ring h.has.left.left
                  obtain ⟨la, lc, hR⟩ := hG.read
                  clear d0 d1 d2 d3 d4 d5 d6 d7 dz
                  obtain ⟨p0, p1, p2, p3, fz⟩ := four_cells hR.hp
                  obtain ⟨y0, y1, y2, y3, yz⟩ := four_cells h.has.right.blk
                  clear h hG hR HSH
                  go_wp2_with fail
                  go_quiet (fail)
                  have M7 := Lib.hid (M6.out.calm ((SafO.good _ _ _ _ _ _ _ _ _ _ _ _).star (BlkH.good _ _ _)) (below_drewN (Below.refl _ _) nq))
                  clear p0 p1 p2 p3 fz y0 y1 y2 y3 yz M6
                  generalize w6.drewN nq = w7 at *
                  have HSTA := Lib.hid ((Looks.left (B := BlkH w5.heap.size #[.int .i64 0, .int .i64 0, .int .i64 0, .bool bo] 51) (Looks.left (B := BlkH w4.heap.size #[.int .u64 (rs 0), .int .u64 (rs 1), .int .u64 (rs 2), .int .u64 (rs 3), .int .u64 (rs 4), .int .u64 (rs 5), .int .u64 (rs 6), .int .u64 (rs 7)] 42) (ExH.look fun xc => Looks.right (A := Star (MG p w2.heap.size n 8 l' g) (ChkH xc n fr rs false m'.s)) (comStamp_any x xc n last fr rs mu m'.st m'.seen m'.stamp)))).at ((SafO.good _ _ _ _ _ _ _ _ _ _ _ _).star (BlkH.good _ _ _)) M7.out)
                  rw [e1, e3] at HSTA
                  go_wp2_with fail
                  refine HSTA.out.mono ?_; rintro e w8 ⟨rfl, h⟩
                  have HPK := Lib.hid ((Looks.left (B := BlkH w5.heap.size #[.int .i64 0, .int .i64 0, .int .i64 0, .bool bo] 51) (Looks.left (B := BlkH w4.heap.size #[.int .u64 (rs 0), .int .u64 (rs 1), .int .u64 (rs 2), .int .u64 (rs 3), .int .u64 (rs 4), .int .u64 (rs 5), .int .u64 (rs 6), .int .u64 (rs 7)] 42) (ExH.look fun xc => Looks.left (B := ComH x xc n last fr rs mu m'.st m'.seen m'.stamp) (Looks.left (B := ChkH xc n fr rs false m'.s) (Looks.left (B := GrowH w2.heap.size n g) (peek_in p n 8 l' 1 0 0 (.inl ⟨rfl, rfl, rfl⟩))))))).at ((SafO.good _ _ _ _ _ _ _ _ _ _ _ _).star (BlkH.good _ _ _)) h)
                  rw [e4] at HPK
                  clear h HSTA M7
                  go_wp2_with fail
                  refine HPK.out.mono ?_; rintro e w9 ⟨rfl, h⟩
                  obtain ⟨y0, y1, y2, y3, yz⟩ := four_cells h.has.right.blk
                  have H9 : Hid (∃ l g m, AtW w1 (SafO p w2.heap.size x w4.heap.size n l g last fr rs mu m) w9 ∧ RingOk n 8 g l (k + (j + 1)) ∧ MInv n fr rs last mu g m) := ⟨l', g, m', h.fst, M3.out, M2.out⟩
                  clear h HPK
                  go_wp2_with fail
                  go_roundw
                  case rel => exact ⟨j + 1, by omega, by go_num, H9.out⟩
                  case measure => simp [intOf]; omega
              · as_aux_lemma =>
                  have hd1 : ((g.done : Int) == g.es.length) = false := by rw [beq_eq_false_iff_ne]; omega
                  clear m5
                  go_wp2_with fail
                  refine HSH.out.mono ?_; rintro e w6 ⟨rfl, h⟩
                  have M6 := Lib.hid h
                  obtain ⟨FG, hG⟩ := com_ring h.has.left.left
                  obtain ⟨la, lc, hR⟩ := hG.read
                  clear d0 d1 d2 d3 d4 d5 d6 d7 dz
                  obtain ⟨p0, p1, p2, p3, fz⟩ := four_cells hR.hp
                  obtain ⟨y0, y1, y2, y3, yz⟩ := four_cells h.has.right.blk
                  clear h hG hR HSH
                  go_wp2_with fail
                  go_quiet (fail)
                  have M7 := Lib.hid (M6.out.calm ((SafO.good _ _ _ _ _ _ _ _ _ _ _ _).star (BlkH.good _ _ _)) (below_drewN (Below.refl _ _) nq))
                  clear p0 p1 p2 p3 fz y0 y1 y2 y3 yz M6
                  generalize w6.drewN nq = w7 at *
                  have HSTA := Lib.hid ((Looks.left (B := BlkH w5.heap.size #[.int .i64 1, .int .i64 0, .int .i64 0, .bool bo] 51) (Looks.left (B := BlkH w4.heap.size #[.int .u64 (rs 0), .int .u64 (rs 1), .int .u64 (rs 2), .int .u64 (rs 3), .int .u64 (rs 4), .int .u64 (rs 5), .int .u64 (rs 6), .int .u64 (rs 7)] 42) (ExH.look fun xc => Looks.right (A := Star (MG p w2.heap.size n 8 l' g) (ChkH xc n fr rs false m'.s)) (comStamp_any x xc n last fr rs mu m'.st m'.seen m'.stamp)))).at ((SafO.good _ _ _ _ _ _ _ _ _ _ _ _).star (BlkH.good _ _ _)) M7.out)
                  rw [e1, e3] at HSTA
                  go_wp2_with fail
                  refine HSTA.out.mono ?_; rintro e w8 ⟨rfl, h⟩
                  have HPK := Lib.hid ((Looks.left (B := BlkH w5.heap.size #[.int .i64 1, .int .i64 0, .int .i64 0, .bool bo] 51) (Looks.left (B := BlkH w4.heap.size #[.int .u64 (rs 0), .int .u64 (rs 1), .int .u64 (rs 2), .int .u64 (rs 3), .int .u64 (rs 4), .int .u64 (rs 5), .int .u64 (rs 6), .int .u64 (rs 7)] 42) (ExH.look fun xc => Looks.left (B := ComH x xc n last fr rs mu m'.st m'.seen m'.stamp) (Looks.left (B := ChkH xc n fr rs false m'.s) (Looks.left (B := GrowH w2.heap.size n g) (peek_in p n 8 l' 1 0 0 (.inl ⟨rfl, rfl, rfl⟩))))))).at ((SafO.good _ _ _ _ _ _ _ _ _ _ _ _).star (BlkH.good _ _ _)) h)
                  rw [e4] at HPK
                  clear h HSTA M7
                  go_wp2_with fail
                  refine HPK.out.mono ?_; rintro e w9 ⟨rfl, h⟩
                  obtain ⟨y0, y1, y2, y3, yz⟩ := four_cells h.has.right.blk
                  have H9 : Hid (∃ l g m, AtW w1 (SafO p w2.heap.size x w4.heap.size n l g last fr rs mu m) w9 ∧ RingOk n 8 g l (k + (j + 1)) ∧ MInv n fr rs last mu g m) := ⟨l', g, m', h.fst, M3.out, M2.out⟩
                  clear h HPK
                  go_wp2_with fail
                  go_roundw
                  case rel => exact ⟨j + 1, by omega, by go_num, H9.out⟩
                  case measure => simp [intOf]; omega
              · as_aux_lemma =>
                  go_wp2_with fail
                  refine HSH.out.mono ?_; rintro e w6 ⟨rfl, h⟩
                  have M6 := Lib.hid h
                  obtain ⟨FG, hG⟩ := com_ring h.has.left.left
                  obtain ⟨la, lc, hR⟩ := hG.read
                  clear d0 d1 d2 d3 d4 d5 d6 d7 dz
                  obtain ⟨p0, p1, p2, p3, fz⟩ := four_cells hR.hp
                  obtain ⟨y0, y1, y2, y3, yz⟩ := four_cells h.has.right.blk
                  clear h hG hR HSH
                  go_wp2_with fail
                  go_quiet (fail)
                  have M7 := Lib.hid (M6.out.calm ((SafO.good _ _ _ _ _ _ _ _ _ _ _ _).star (BlkH.good _ _ _)) (below_drewN (Below.refl _ _) nq))
                  clear p0 p1 p2 p3 fz y0 y1 y2 y3 yz M6
                  generalize w6.drewN nq = w7 at *
                  have HSTA := Lib.hid ((Looks.left (B := BlkH w5.heap.size #[.int .i64 2, .int .i64 0, .int .i64 0, .bool bo] 51) (Looks.left (B := BlkH w4.heap.size #[.int .u64 (rs 0), .int .u64 (rs 1), .int .u64 (rs 2), .int .u64 (rs 3), .int .u64 (rs 4), .int .u64 (rs 5), .int .u64 (rs 6), .int .u64 (rs 7)] 42) (ExH.look fun xc => Looks.right (A := Star (MG p w2.heap.size n 8 l' g) (ChkH xc n fr rs false m'.s)) (comStamp_any x xc n last fr rs mu m'.st m'.seen m'.stamp)))).at ((SafO.good _ _ _ _ _ _ _ _ _ _ _ _).star (BlkH.good _ _ _)) M7.out)
                  rw [e1, e3] at HSTA
                  go_wp2_with fail
                  refine HSTA.out.mono ?_; rintro e w8 ⟨rfl, h⟩
                  have HPK := Lib.hid ((Looks.left (B := BlkH w5.heap.size #[.int .i64 2, .int .i64 0, .int .i64 0, .bool bo] 51) (Looks.left (B := BlkH w4.heap.size #[.int .u64 (rs 0), .int .u64 (rs 1), .int .u64 (rs 2), .int .u64 (rs 3), .int .u64 (rs 4), .int .u64 (rs 5), .int .u64 (rs 6), .int .u64 (rs 7)] 42) (ExH.look fun xc => Looks.left (B := ComH x xc n last fr rs mu m'.st m'.seen m'.stamp) (Looks.left (B := ChkH xc n fr rs false m'.s) (Looks.left (B := GrowH w2.heap.size n g) (peek_in p n 8 l' 1 0 0 (.inl ⟨rfl, rfl, rfl⟩))))))).at ((SafO.good _ _ _ _ _ _ _ _ _ _ _ _).star (BlkH.good _ _ _)) h)
                  rw [e4] at HPK
                  clear h HSTA M7
                  go_wp2_with fail
                  refine HPK.out.mono ?_; rintro e w9 ⟨rfl, h⟩
                  obtain ⟨y0, y1, y2, y3, yz⟩ := four_cells h.has.right.blk
                  have H9 : Hid (∃ l g m, AtW w1 (SafO p w2.heap.size x w4.heap.size n l g last fr rs mu m) w9 ∧ RingOk n 8 g l (k + (j + 1)) ∧ MInv n fr rs last mu g m) := ⟨l', g, m', h.fst, M3.out, M2.out⟩
                  clear h HPK
                  go_wp2_with fail
                  go_roundw
                  case rel => exact ⟨j + 1, by omega, by go_num, H9.out⟩
                  case measure => simp [intOf]; omega
              · as_aux_lemma =>
                  obtain rfl := hsb1 m5
                  clear m5
                  go_wp2_with fail
                  refine HSH.out.mono ?_; rintro e w6 ⟨rfl, h⟩
                  have M6 := Lib.hid h
                  obtain ⟨FG, hG⟩ := com_ring h.has.left.left
                  obtain ⟨la, lc, hR⟩ := hG.read
                  clear d0 d1 d2 d3 d4 d5 d6 d7 dz
                  obtain ⟨p0, p1, p2, p3, fz⟩ := four_cells hR.hp
                  obtain ⟨y0, y1, y2, y3, yz⟩ := four_cells h.has.right.blk
                  clear h hG hR HSH
                  go_wp2_with fail
                  go_quiet (fail)
                  have M7 := Lib.hid (M6.out.calm ((SafO.good _ _ _ _ _ _ _ _ _ _ _ _).star (BlkH.good _ _ _)) (below_drewN (Below.refl _ _) nq))
                  clear p0 p1 p2 p3 fz y0 y1 y2 y3 yz M6
                  generalize w6.drewN nq = w7 at *
                  have HSTA := Lib.hid ((Looks.left (B := BlkH w5.heap.size #[.int .i64 4, .int .i64 3, .int .i64 0, .bool bo] 51) (Looks.left (B := BlkH w4.heap.size #[.int .u64 (rs 0), .int .u64 (rs 1), .int .u64 (rs 2), .int .u64 (rs 3), .int .u64 (rs 4), .int .u64 (rs 5), .int .u64 (rs 6), .int .u64 (rs 7)] 42) (ExH.look fun xc => Looks.right (A := Star (MG p w2.heap.size n 8 l' g) (ChkH xc n fr rs false m'.s)) (comStamp_any x xc n last fr rs mu m'.st m'.seen m'.stamp)))).at ((SafO.good _ _ _ _ _ _ _ _ _ _ _ _).star (BlkH.good _ _ _)) M7.out)
                  rw [e1, e3] at HSTA
                  go_wp2_with fail
                  refine HSTA.out.mono ?_; rintro e w8 ⟨rfl, h⟩
                  have HPK := Lib.hid ((Looks.left (B := BlkH w5.heap.size #[.int .i64 4, .int .i64 3, .int .i64 0, .bool bo] 51) (Looks.left (B := BlkH w4.heap.size #[.int .u64 (rs 0), .int .u64 (rs 1), .int .u64 (rs 2), .int .u64 (rs 3), .int .u64 (rs 4), .int .u64 (rs 5), .int .u64 (rs 6), .int .u64 (rs 7)] 42) (ExH.look fun xc => Looks.left (B := ComH x xc n last fr rs mu m'.st m'.seen m'.stamp) (Looks.left (B := ChkH xc n fr rs false m'.s) (Looks.left (B := GrowH w2.heap.size n g) (peek_in p n 8 l' 1 0 0 (.inl ⟨rfl, rfl, rfl⟩))))))).at ((SafO.good _ _ _ _ _ _ _ _ _ _ _ _).star (BlkH.good _ _ _)) h)
                  rw [e4] at HPK
                  clear h HSTA M7
                  go_wp2_with fail
                  refine HPK.out.mono ?_; rintro e w9 ⟨rfl, h⟩
                  obtain ⟨y0, y1, y2, y3, yz⟩ := four_cells h.has.right.blk
                  have H9 : Hid (∃ l g m, AtW w1 (SafO p w2.heap.size x w4.heap.size n l g last fr rs mu m) w9 ∧ RingOk n 8 g l (k + (j + 1)) ∧ MInv n fr rs last mu g m) := ⟨l', g, m', h.fst, M3.out, M2.out⟩
                  clear h HPK
                  go_wp2_with fail
                  go_roundw
                  case rel => exact ⟨j + 1, by omega, by go_num, H9.out⟩
                  case measure => simp [intOf]; omega
              · as_aux_lemma =>
                  have hd1 : decide ((g.es.length : Int) - fr ≤ n) = false := by simp; omega
                  clear m5
                  go_wp2_with fail
                  refine HSH.out.mono ?_; rintro e w6 ⟨rfl, h⟩
                  have M6 := Lib.hid h
                  obtain ⟨FG, hG⟩ := com_ring h.has.left.left
                  obtain ⟨la, lc, hR⟩ := hG.read
                  clear d0 d1 d2 d3 d4 d5 d6 d7 dz
                  obtain ⟨p0, p1, p2, p3, fz⟩ := four_cells hR.hp
                  obtain ⟨y0, y1, y2, y3, yz⟩ := four_cells h.has.right.blk
                  clear h hG hR HSH
                  go_wp2_with fail
                  go_quiet (fail)
                  have M7 := Lib.hid (M6.out.calm ((SafO.good _ _ _ _ _ _ _ _ _ _ _ _).star (BlkH.good _ _ _)) (below_drewN (Below.refl _ _) nq))
                  clear p0 p1 p2 p3 fz y0 y1 y2 y3 yz M6
                  generalize w6.drewN nq = w7 at *
                  have HSTA := Lib.hid ((Looks.left (B := BlkH w5.heap.size #[.int .i64 4, .int .i64 4, .int .i64 0, .bool bo] 51) (Looks.left (B := BlkH w4.heap.size #[.int .u64 (rs 0), .int .u64 (rs 1), .int .u64 (rs 2), .int .u64 (rs 3), .int .u64 (rs 4), .int .u64 (rs 5), .int .u64 (rs 6), .int .u64 (rs 7)] 42) (ExH.look fun xc => Looks.right (A := Star (MG p w2.heap.size n 8 l' g) (ChkH xc n fr rs false m'.s)) (comStamp_any x xc n last fr rs mu m'.st m'.seen m'.stamp)))).at ((SafO.good _ _ _ _ _ _ _ _ _ _ _ _).star (BlkH.good _ _ _)) M7.out)
                  rw [e1, e3] at HSTA
                  go_wp2_with fail
                  refine HSTA.out.mono ?_; rintro e w8 ⟨rfl, h⟩
                  have HPK := Lib.hid ((Looks.left (B := BlkH w5.heap.size #[.int .i64 4, .int .i64 4, .int .i64 0, .bool bo] 51) (Looks.left (B := BlkH w4.heap.size #[.int .u64 (rs 0), .int .u64 (rs 1), .int .u64 (rs 2), .int .u64 (rs 3), .int .u64 (rs 4), .int .u64 (rs 5), .int .u64 (rs 6), .int .u64 (rs 7)] 42) (ExH.look fun xc => Looks.left (B := ComH x xc n last fr rs mu m'.st m'.seen m'.stamp) (Looks.left (B := ChkH xc n fr rs false m'.s) (Looks.left (B := GrowH w2.heap.size n g) (peek_in p n 8 l' 1 0 0 (.inl ⟨rfl, rfl, rfl⟩))))))).at ((SafO.good _ _ _ _ _ _ _ _ _ _ _ _).star (BlkH.good _ _ _)) h)
                  rw [e4] at HPK
                  clear h HSTA M7
                  go_wp2_with fail
                  refine HPK.out.mono ?_; rintro e w9 ⟨rfl, h⟩
                  obtain ⟨y0, y1, y2, y3, yz⟩ := four_cells h.has.right.blk
                  have H9 : Hid (∃ l g m, AtW w1 (SafO p w2.heap.size x w4.heap.size n l g last fr rs mu m) w9 ∧ RingOk n 8 g l (k + (j + 1)) ∧ MInv n fr rs last mu g m) := ⟨l', g, m', h.fst, M3.out, M2.out⟩
                  clear h HPK
                  go_wp2_with fail
                  go_roundw
                  case rel => exact ⟨j + 1, by omega, by go_num, H9.out⟩
                  case measure => simp [intOf]; omega
              · as_aux_lemma =>
                  have hd1 : decide ((g.es.length : Int) < last) = false := by simp; omega
                  clear m5
                  go_wp2_with fail
                  refine HSH.out.mono ?_; rintro e w6 ⟨rfl, h⟩
                  have M6 := Lib.hid h
                  obtain ⟨FG, hG⟩ := com_ring h.has.left.left
                  obtain ⟨la, lc, hR⟩ := hG.read
                  clear d0 d1 d2 d3 d4 d5 d6 d7 dz
                  obtain ⟨p0, p1, p2, p3, fz⟩ := four_cells hR.hp
                  obtain ⟨y0, y1, y2, y3, yz⟩ := four_cells h.has.right.blk
                  clear h hG hR HSH
                  go_wp2_with fail
                  go_quiet (fail)
                  have M7 := Lib.hid (M6.out.calm ((SafO.good _ _ _ _ _ _ _ _ _ _ _ _).star (BlkH.good _ _ _)) (below_drewN (Below.refl _ _) nq))
                  clear p0 p1 p2 p3 fz y0 y1 y2 y3 yz M6
                  generalize w6.drewN nq = w7 at *
                  have HSTA := Lib.hid ((Looks.left (B := BlkH w5.heap.size #[.int .i64 4, .int .i64 6, .int .i64 0, .bool bo] 51) (Looks.left (B := BlkH w4.heap.size #[.int .u64 (rs 0), .int .u64 (rs 1), .int .u64 (rs 2), .int .u64 (rs 3), .int .u64 (rs 4), .int .u64 (rs 5), .int .u64 (rs 6), .int .u64 (rs 7)] 42) (ExH.look fun xc => Looks.right (A := Star (MG p w2.heap.size n 8 l' g) (ChkH xc n fr rs false m'.s)) (comStamp_any x xc n last fr rs mu m'.st m'.seen m'.stamp)))).at ((SafO.good _ _ _ _ _ _ _ _ _ _ _ _).star (BlkH.good _ _ _)) M7.out)
                  rw [e1, e3] at HSTA
                  go_wp2_with fail
                  refine HSTA.out.mono ?_; rintro e w8 ⟨rfl, h⟩
                  have HPK := Lib.hid ((Looks.left (B := BlkH w5.heap.size #[.int .i64 4, .int .i64 6, .int .i64 0, .bool bo] 51) (Looks.left (B := BlkH w4.heap.size #[.int .u64 (rs 0), .int .u64 (rs 1), .int .u64 (rs 2), .int .u64 (rs 3), .int .u64 (rs 4), .int .u64 (rs 5), .int .u64 (rs 6), .int .u64 (rs 7)] 42) (ExH.look fun xc => Looks.left (B := ComH x xc n last fr rs mu m'.st m'.seen m'.stamp) (Looks.left (B := ChkH xc n fr rs false m'.s) (Looks.left (B := GrowH w2.heap.size n g) (peek_in p n 8 l' 1 0 0 (.inl ⟨rfl, rfl, rfl⟩))))))).at ((SafO.good _ _ _ _ _ _ _ _ _ _ _ _).star (BlkH.good _ _ _)) h)
                  rw [e4] at HPK
                  clear h HSTA M7
                  go_wp2_with fail
                  refine HPK.out.mono ?_; rintro e w9 ⟨rfl, h⟩
                  obtain ⟨y0, y1, y2, y3, yz⟩ := four_cells h.has.right.blk
                  have H9 : Hid (∃ l g m, AtW w1 (SafO p w2.heap.size x w4.heap.size n l g last fr rs mu m) w9 ∧ RingOk n 8 g l (k + (j + 1)) ∧ MInv n fr rs last mu g m) := ⟨l', g, m', h.fst, M3.out, M2.out⟩
                  clear h HPK
                  go_wp2_with fail
                  go_roundw
                  case rel => exact ⟨j + 1, by omega, by go_num, H9.out⟩
                  case measure => simp [intOf]; omega
            · as_aux_lemma =>
                have e1 : (if m'.st = 3 then m'.stamp else 0) = (g.es.length : Int) + 1 := by rw [if_pos hs3]; exact hsm
                have e3 : (m'.st == 3) = true := by simp [hs3]
                obtain rfl := hsb0 hns
                have hr1 : decide ((g.es.length : Int) - g.done < n) = true := by simp; omega
                have hr2 : decide ((g.es.length : Int) + 1 ≤ last) = true := by simp; omega
                have HNO := Lib.hid hnone
                clear hnone hroom hlst hsm hs3
                go_wp2_with fail
                refine HSH.out.mono ?_; rintro e w6 ⟨rfl, h⟩
                have M6 := Lib.hid h
                obtain ⟨FG, hG⟩ := com_ring h.has.left.left
                obtain ⟨la, lc, hR⟩ := hG.read
                clear d0 d1 d2 d3 d4 d5 d6 d7 dz
                obtain ⟨p0, p1, p2, p3, fz⟩ := four_cells hR.hp
                obtain ⟨y0, y1, y2, y3, yz⟩ := four_cells h.has.right.blk
                clear h hG hR HSH
                go_wp2_with fail
                go_quiet (fail)
                have M7 := Lib.hid (M6.out.calm ((SafO.good _ _ _ _ _ _ _ _ _ _ _ _).star (BlkH.good _ _ _)) (below_drewN (Below.refl _ _) nq))
                clear p0 p1 p2 p3 fz y0 y1 y2 y3 yz M6
                generalize w6.drewN nq = w7 at *
                have HSTA := Lib.hid ((Looks.left (B := BlkH w5.heap.size #[.int .i64 3, .int .i64 0, .int .i64 ((g.es.length : Int) + 1), .bool bo] 51) (Looks.left (B := BlkH w4.heap.size #[.int .u64 (rs 0), .int .u64 (rs 1), .int .u64 (rs 2), .int .u64 (rs 3), .int .u64 (rs 4), .int .u64 (rs 5), .int .u64 (rs 6), .int .u64 (rs 7)] 42) (ExH.look fun xc => Looks.right (A := Star (MG p w2.heap.size n 8 l' g) (ChkH xc n fr rs false m'.s)) (comStamp_any x xc n last fr rs mu m'.st m'.seen m'.stamp)))).at ((SafO.good _ _ _ _ _ _ _ _ _ _ _ _).star (BlkH.good _ _ _)) M7.out)
                rw [e1, e3] at HSTA
                go_wp2_with fail
                refine HSTA.out.mono ?_; rintro e w8 ⟨rfl, h⟩
                have HPK := Lib.hid ((Looks.left (B := BlkH w5.heap.size #[.int .i64 3, .int .i64 0, .int .i64 ((g.es.length : Int) + 1), .bool bo] 51) (Looks.left (B := BlkH w4.heap.size #[.int .u64 (rs 0), .int .u64 (rs 1), .int .u64 (rs 2), .int .u64 (rs 3), .int .u64 (rs 4), .int .u64 (rs 5), .int .u64 (rs 6), .int .u64 (rs 7)] 42) (ExH.look fun xc => Looks.left (B := ComH x xc n last fr rs mu m'.st m'.seen m'.stamp) (Looks.left (B := ChkH xc n fr rs false m'.s) (Looks.left (B := GrowH w2.heap.size n g) (peek_in p n 8 l' 1 0 0 (.inl ⟨rfl, rfl, rfl⟩))))))).at ((SafO.good _ _ _ _ _ _ _ _ _ _ _ _).star (BlkH.good _ _ _)) h)
                rw [hwd] at HPK
                clear h HSTA M7
                go_wp2_with fail
                refine HPK.out.mono ?_; rintro e w9 ⟨rfl, h⟩
                have HS2 := Lib.hid ((Looks.left (B := BlkH w5.heap.size #[.int .i64 3, .int .i64 0, .int .i64 ((g.es.length : Int) + 1), .bool bo] 51) (Looks.left (B := BlkH w4.heap.size #[.int .u64 (rs 0), .int .u64 (rs 1), .int .u64 (rs 2), .int .u64 (rs 3), .int .u64 (rs 4), .int .u64 (rs 5), .int .u64 (rs 6), .int .u64 (rs 7)] 42) (ExH.look fun xc => Looks.left (B := ComH x xc n last fr rs mu m'.st m'.seen m'.stamp) (Looks.left (B := ChkH xc n fr rs false m'.s) (Looks.right (A := MemH p n 8 l') (shares_any w2.heap.size n 8 l g GI.out fr g.es.length rs HRS.out)))))).at ((SafO.good _ _ _ _ _ _ _ _ _ _ _ _).star (BlkH.good _ _ _)) h)
                rw [sharesB_false hns] at HS2
                obtain ⟨d0, d1, d2, d3, d4, d5, d6, d7, dz⟩ := blk_facts h.has.left.right.blk
                clear h HPK hns
                go_wp2_with fail
                refine HS2.out.mono ?_; rintro e w10 ⟨rfl, h⟩
                obtain ⟨FG, hG⟩ := com_ring h.has.left.left
                obtain ⟨la, lc, hR⟩ := hG.read
                clear d0 d1 d2 d3 d4 d5 d6 d7 dz
                obtain ⟨p0, p1, p2, p3, fz⟩ := four_cells hR.hp
                obtain ⟨y0, y1, y2, y3, yz⟩ := four_cells h.has.right.blk
                have HBB := Lib.hid (B1.out.trans (h.below.mono B1.out.size))
                clear h hG hR HS2
                cases mu
                · have hd9 : g.done = g.es.length := HNO.out rfl
                  have hd8 : ((g.done : Int) == g.es.length) = true := by simp [hd9]
                  go_wp2_with fail
                  go_quiet (fail)
                  go_wp2_with fail
                  go_ret
                  exact ⟨rfl, below_drewN HBB.out nq⟩
                · go_wp2_with fail
                  go_quiet (fail)
                  go_wp2_with fail
                  go_ret
                  exact ⟨rfl, below_drewN HBB.out nq⟩
          · have hne : (k2 j != 0) = true := by simp [hz]
            have HQ := Lib.hid hq
            have G2 := Lib.hid g2
            have G3 := Lib.hid g3
            have HACT := Lib.hid (fun kind => act_com (BlkH.good _ _ _) (g1.calm (SafO.good _ _ _ _ _ _ _ _ _ _ _ _) ((Below.refl _ _).drew)) g2 hn1 hn2 (by decide) (by decide) (by omega) kind (s2 j).1 (s2 j).2.1 (s2 j).2.2 (q2 j) hsl (hgr.below ((Below.refl _ _).drew)))
            clear HE g1 g2 g3 hgr hq hki
            go_wp2_with fail
            go_still_tail 13, (by kernel_rfl)
            change wpList _ _ _ _ _ wr.drew
            go_wp2_with fail
            refine (HACT.out _).mono ?_; rintro e w5 ⟨rfl, h⟩
            have H5 : Hid (∃ l g m, AtW w1 (SafO p w2.heap.size x w4.heap.size n l g last fr rs mu m) w5 ∧ RingOk n 8 g l (k + (j + 1)) ∧ MInv n fr rs last mu g m) := by
              obtain ⟨r1, r2, r3, r4⟩ := G2.out.act hn1 (by decide) (by omega) _ (q2 j) _ HQ.out
              exact ⟨_, _, m, h, r1, G3.out.mono r2 r3 r4⟩
            clear h HACT t0 t1 G2 G3
            go_wp2_with fail
            go_roundw
            case rel => exact ⟨j + 1, by omega, by go_num, H5.out⟩
            case measure => simp [intOf]; omega
        · obtain rfl : j = l2 := by omega
          obtain ⟨l, g, m, g1, g2, g3⟩ := HE.out
          go_wp2_with fail
          go_ret
          exact ⟨rfl, B1.out.trans (g1.below.mono B1.out.size)⟩
end Go.Proofs.Ytojkeahffabifaa
