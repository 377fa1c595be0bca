/- Layer 9: the walk of FetchTells. -/
import Derived.Test.YtcbjbmbibnmohaaW9s
import Derived.Test.YtcbjbmbibnmohaaW9
namespace Go.Proofs.Ytcbjbmbibnmohaa
open Go.RowKit
set_option linter.unusedVariables false
abbrev FO (p gp x xc n : Nat) (l : List Acc) (g : GS) (d0 : Nat) (c : Int) (rs : Nat → Int) (rd : Bool) (val : Int) (st : CS) : HP := Star (Star (MG p gp n 8 l g) (ChkH xc n d0 rs true st)) (FetH x xc n c rs rd val)
theorem FO.good (p gp x xc n : Nat) (l : List Acc) (g : GS) (d0 : Nat) (c : Int) (rs : Nat → Int) (rd : Bool) (val : Int) (st : CS) : Good (FO p gp x xc n l g d0 c rs rd val st) := ((MG.good _ _ _ _ _ _).star (BlkH.good _ _ _)).star (BlkH.good _ _ _)
theorem fet_step {w0 wr : World} {p gp x xc n k : Nat} {l : List Acc} {g : GS} {d0 : Nat} {c : Int} {rs : Nat → Int} {rd : Bool} {val : Int} {st : CS} (hn1 : 1 ≤ n) (hn2 : n ≤ 16) (hrs : Wds rs) (hc0 : 0 ≤ c) (hc1 : c < 8) (h : AtW w0 (FO p gp x xc n l g d0 c rs rd val st) wr) (ho : RingOk n 8 g l k) (hi : SafeInv n d0 rs g st) (hv : FVal g d0 c rd val st) (hrd : rd = false → st.st = 0) (hk : k ≤ 10000000) :
    Calls Try.prog 13 #[.pointer (some ⟨x, 0, none⟩), .pointer (some ⟨p, 0, none⟩), .int .i64 1] wr fun e w' => ∃ kd er v bo l' val' st', e = .returned (ansV kd er v bo) ∧ AtW w0 (FO p gp x xc n l' g d0 c rs true val' st') w' ∧ RingOk n 8 g l' (k + 1) ∧ SafeInv n d0 rs g st' ∧ FVal g d0 c true val' st' ∧ (kd = 3 → v = val') ∧
      (er = 0 ∨ (er = 3 ∧ sharesG g.es d0 g.es.length rs) ∨ (er = 4 ∧ (d0 : Int) + n < g.es.length)) := by
  have hl := ho.len
  have hm := ho.many
  cases rd with
  | false =>
    refine ((lift_swap2 (GrowH.good gp n g) (fetStep_read p x xc n 8 l (by omega) d0 c hc0 (by omega) rs val st 1)).at h).mono ?_
    rintro e w' ⟨rfl, h⟩
    exact ⟨2, 0, 0, true, _, _, st, rfl, h, ho.ld _ _ _ _ _, hi, FVal.load ho.inv (by have := hi.2.1; omega) c st (hrd rfl), fun h => by omega, .inl rfl⟩
  | true =>
    by_cases hst : 4 ≤ st.st
    · refine ((lift_swap2 (GrowH.good gp n g) (fetStep_on p x xc n 8 l _ (CStep.good _ _ _ _ _ _ _ _ _ _) 0 0 (by decide) false d0 c (by omega) rs val st 1 (looks_lifts (CStep.good _ _ _ _ _ _ _ _ _ _) (chkStep_none p xc n 8 l n d0 rs true st 1 (.inr hst))))).at h).mono ?_
      rintro e w' ⟨rfl, h⟩
      exact ⟨0, 0, 0, false, l, val, st, rfl, h, ho.more, hi, hv, fun h => by omega, .inl rfl⟩
    · have h4 : st.st < 4 := by omega
      have h00 : 0 ≤ st.st := by
        obtain ⟨_, _, _, _, hx⟩ := hi
        rcases hx with h | h | h | h | h | h <;> omega
      have hS := SafeInv.step ho.inv hn1 hn2 hrs hi h4 true rfl
      have hF := FVal.step (f := d0) (rs := rs) ho.inv hv h4 h00 true
      have hK := stepK_kinds n d0 rs true st (wordOf l (addrK n st).1 (addrK n st).2.1 (addrK n st).2.2)
      obtain ⟨⟨a, b, c'⟩, ha⟩ : ∃ t, addrK n st = t := ⟨_, rfl⟩
      obtain ⟨v, hvv⟩ : ∃ v, wordOf l a b c' = v := ⟨_, rfl⟩
      obtain ⟨⟨st', kd, er⟩, hs⟩ : ∃ t, stepK n d0 rs true st v = t := ⟨_, rfl⟩
      have hvI : I64 v := hvv ▸ ho.inv.okw a b c'
      rw [ha] at hS hK hF
      simp only at hS hK hF
      rw [hvv, hs] at hS hK hF
      simp only at hS hK hF
      obtain ⟨s1, s2, s3, s4⟩ := hS
      have hgo := chkStep_go p xc n 8 l (by omega) hn1 hn2 d0 hi.1 rs hrs true st 1 (hi.rng h4 (by omega)) a b c' ha v hvv hvI st' kd er hs
      have hE : er = 0 ∨ (er = 3 ∧ sharesG g.es d0 g.es.length rs) ∨ (er = 4 ∧ (d0 : Int) + n < g.es.length) := by
        rcases hK with ⟨rfl, rfl⟩ | ⟨rfl, rfl⟩ | ⟨rfl, rfl⟩ | ⟨rfl, rfl⟩ | ⟨rfl, rfl⟩
        · exact .inl rfl
        · exact .inl rfl
        · exact .inl rfl
        · exact .inr (.inl ⟨rfl, s2 rfl⟩)
        · exact .inr (.inr ⟨rfl, s3 rfl⟩)
      by_cases hk3 : kd = 3
      · subst hk3
        refine ((lift_swap2 (GrowH.good gp n g) (fetStep_done p x xc n 8 l _ (CStep.good _ _ _ _ _ _ _ _ _ _) er true d0 c (by omega) rs val st 1 hgo)).at h).mono ?_
        rintro e w' ⟨rfl, h⟩
        exact ⟨3, er, val, true, _, val, st', rfl, h, ho.ld _ _ _ _ _, s1, hF, fun _ => rfl, hE⟩
      · refine ((lift_swap2 (GrowH.good gp n g) (fetStep_on p x xc n 8 l _ (CStep.good _ _ _ _ _ _ _ _ _ _) kd er hk3 true d0 c (by omega) rs val st 1 hgo)).at h).mono ?_
        rintro e w' ⟨rfl, h⟩
        exact ⟨kd, er, 0, true, _, val, st', rfl, h, ho.ld _ _ _ _ _, s1, hF, fun h => absurd h hk3, hE⟩
theorem FVal.no (g : GS) (fr : Nat) (c v : Int) (s : CS) : FVal g fr c false v s := fun h => by cases h
theorem two_ints (w : World) (a b : Int) : IntsAt (w.alloc (.cells #[.int .i64 a, .int .i64 b] 3)) (some ⟨w.heap.size, 0, none⟩) 2 [a, b] := ⟨rfl, .inr ⟨w.heap.size, 0, rfl, by simp, fun i hi => by
  match i, hi with
  | 0, _ => simp
  | 1, _ => simp⟩⟩
theorem one_int (w : World) (a : Int) : IntsAt (w.alloc (.cells #[.int .i64 a] 3)) (some ⟨w.heap.size, 0, none⟩) 1 [a] := ⟨rfl, .inr ⟨w.heap.size, 0, rfl, by simp, fun i hi => by
  match i, hi with
  | 0, _ => simp⟩⟩
theorem of_one (a : Int) (w : World) (b : Nat) (hb : b = w.heap.size) : Calls Try.prog 12 #[.slice (some ⟨b, 0, none⟩) 1 1] (w.alloc (.cells #[.int .i64 a] 3)) fun e w' => e = .returned (.agg #[.int .u64 (ofS [a] 0), .int .u64 (ofS [a] 1), .int .u64 (ofS [a] 2), .int .u64 (ofS [a] 3), .int .u64 (ofS [a] 4), .int .u64 (ofS [a] 5), .int .u64 (ofS [a] 6), .int .u64 (ofS [a] 7)]) ∧ Below (w.alloc (.cells #[.int .i64 a] 3)).heap.size (w.alloc (.cells #[.int .i64 a] 3)) w' :=
  hb ▸ refOf_any _ 1 1 [a] _ (one_int w a) (by decide)
theorem of_two (a b : Int) (w : World) (k : Nat) (hk : k = w.heap.size) : Calls Try.prog 12 #[.slice (some ⟨k, 0, none⟩) 2 2] (w.alloc (.cells #[.int .i64 a, .int .i64 b] 3)) fun e w' => e = .returned (.agg #[.int .u64 (ofS [a, b] 0), .int .u64 (ofS [a, b] 1), .int .u64 (ofS [a, b] 2), .int .u64 (ofS [a, b] 3), .int .u64 (ofS [a, b] 4), .int .u64 (ofS [a, b] 5), .int .u64 (ofS [a, b] 6), .int .u64 (ofS [a, b] 7)]) ∧ Below (w.alloc (.cells #[.int .i64 a, .int .i64 b] 3)).heap.size (w.alloc (.cells #[.int .i64 a, .int .i64 b] 3)) w' :=
  hk ▸ refOf_any _ 2 2 [a, b] _ (two_ints w a b) (by decide)
set_option maxHeartbeats 3000000 in
set_option maxRecDepth 100000 in
theorem fetchTells_law {w : World} (raw ahead cell : Int) (a1 : Option Addr) (l1 c1 : Nat) (k1 : Nat → Int) (s1 : Nat → Option Addr × Nat × Nat) (q1 : Nat → Nat → Nat → Int) (a2 : Option Addr) (l2 c2 : Nat) (k2 : Nat → Int) (s2 : Nat → Option Addr × Nat × Nat) (q2 : Nat → Nat → Nat → Int)
    (ht1 : Turns w a1 l1 k1 s1 q1) (ht2 : Turns w a2 l2 k2 s2 q2) (hb1 : l1 ≤ 1048576) (hb2 : l2 ≤ 1048576) :
    Calls Try.prog 3 #[.agg #[.int .i64 raw, .int .i64 ahead, .int .i64 cell, .slice a1 l1 c1, .slice a2 l2 c2]] w fun e w' => e = .returned (.bool true) ∧ Below w.heap.size w w' := by
  have HT1 := Lib.hid ht1
  have HT2 := Lib.hid ht2
  have hp := pickZ_range raw 16 (by decide)
  obtain ⟨n, hn⟩ : ∃ n : Nat, 1 + pickZ raw 16 = n := ⟨(1 + pickZ raw 16).toNat, by omega⟩
  have hn1 : 1 ≤ n := by omega
  have hn2 : n ≤ 16 := by omega
  have HP := Lib.hid (pick_any raw 16 (by decide) (by decide))
  generalize pickZ raw 16 = pz at *
  obtain rfl : pz = (n : Int) - 1 := by omega
  have HB0 : Hid (∀ a, Below w.heap.size w (w.alloc a)) := fun a => (Below.refl _ _).alloc (Nat.le_refl _) _
  have e0 : (1 : Int) + ((n : Int) - 1) = n := by omega
  have HM := Lib.hid (memNew_any 8 n (by decide) (by decide) hn1 (by omega))
  have hpo := pickZ_range ahead 8 (by decide)
  have HPO := Lib.hid (pick_any ahead 8 (by decide) (by decide))
  generalize pickZ ahead 8 = old at *
  have hpc := pickZ_range cell 8 (by decide)
  have HPC := Lib.hid (pick_any cell 8 (by decide) (by decide))
  generalize pickZ cell 8 = c at *
  clear ht1 ht2 hp hn
  go_enter Try.func3, Try.ntmps3
  go_wp2_with fail
  refine (shown9_any _).mono ?_; rintro e w1 ⟨rfl, hb⟩
  have B1 := Lib.hid ((HB0.out _).trans (hb.mono (by simp)))
  clear hb HB0
  go_wp2_with fail
  refine (HP.out w1).mono ?_; rintro e w' ⟨rfl, rfl⟩
  go_wp2_with fail
  refine (HM.out w1).mono ?_; rintro e w2 ⟨p, rfl, h⟩
  have HA1 : Hid (AtW w1 (MG p w2.heap.size n 8 [] ⟨[], 0, 0⟩) (w2.alloc (.cells #[.int .i64 n, .slice none 0 0, .int .i64 0, .int .i64 0] 34))) := h.new (MemH.good _ _ _ _) (grow_new w2 n)
  clear h HM HP
  go_wp2_with fail
  go_loopw [13] (fun i wr => ∃ k : Nat, k ≤ l1 ∧ i = .int .i64 k ∧ Hid (∃ l g, AtW w1 (MG p w2.heap.size n 8 l g) wr ∧ RingOk n 8 g l k)) (fun i _ => l1 - (intOf i).toNat)
  case atStart => exact ⟨0, by omega, rfl, [], ⟨[], 0, 0⟩, HA1.out, RingOk.nil _ _⟩
  case round =>
    obtain ⟨k, hk, rfl, HE⟩ := hrel
    clear HA1
    by_cases hlt : k < l1
    · obtain ⟨l, g, g1, g2⟩ := HE.out
      obtain ⟨b, off, rfl, t0, t1, hgr, hsl, hki, hq⟩ := turn_at HT1.out (B1.out.trans (g1.below.mono B1.out.size)) hlt
      have HQ := Lib.hid hq
      have G2 := Lib.hid g2
      have HACT := Lib.hid (act_at (g1.calm (MG.good _ _ _ _ _ _) ((Below.refl _ _).drew)) g2 hn1 hn2 (by decide) (by decide) (by omega) (k1 k) (s1 k).1 (s1 k).2.1 (s1 k).2.2 (q1 k) hsl (hgr.below ((Below.refl _ _).drew)))
      clear HE g1 g2 hgr hq hki
      go_wp2_with fail
      go_still_tail 12, (by kernel_rfl)
      change wpList _ _ _ _ _ wr.drew
      go_wp2_with fail
      refine HACT.out.mono ?_; rintro e w4 ⟨rfl, h⟩
      have H4 : Hid (∃ l g, AtW w1 (MG p w2.heap.size n 8 l g) w4 ∧ RingOk n 8 g l (k + 1)) := ⟨_, _, h, (G2.out.act hn1 (by decide) (by omega) (k1 k) (q1 k) _ HQ.out).1⟩
      clear h HACT t0 t1 G2
      go_wp2_with fail
      go_roundw
      case rel => exact ⟨k + 1, by omega, by go_num, H4.out⟩
      case measure => simp [intOf]; omega
    · obtain rfl : k = l1 := by omega
      obtain ⟨l, g, g1, g2⟩ := HE.out
      obtain ⟨FG, hG⟩ := g1.has.right
      obtain ⟨la, lc, hR⟩ := hG.read
      obtain ⟨p0, p1, p2, p3, fz⟩ := four_cells hR.hp
      have hle0 : g.done ≤ g.es.length := Nat.le_trans g2.inv.dl g2.inv.ll
      have HVAL := Lib.hid ((Looks.right (A := MemH p n 8 l) (value_any w2.heap.size n g g2.inv.big old g.done)).at (MG.good _ _ _ _ _ _) g1)
      rw [Int.toNat_natCast] at HVAL
      have HI : Hid (SafeInv n g.done (withS (ofS [old]) c) g ⟨0, g.done, 0, 0, 0⟩) := SafeInv.new rfl
      have G2 := Lib.hid g2
      have HHV : Hid (valN g.es g.done old = valN g.es g.done old) := rfl
      obtain ⟨held, hheld⟩ : ∃ held, valN g.es g.done old = held := ⟨_, rfl⟩
      rw [hheld] at HVAL
      have HELD := Lib.hid hheld
      have hdle := Lib.hid hle0
      obtain ⟨d0, hd0⟩ : ∃ d0, g.done = d0 := ⟨_, rfl⟩
      rw [hd0] at p3 HI HELD hdle HVAL
      have hdb : d0 ≤ 100000000 := by have := g2.inv.big; omega
      have HC := Lib.hid (fetNew_any n d0 (ofS [old]) (ofS_wds _) c (by omega) (by omega) (by omega) (by omega) (by omega))
      unfold FetNew at HC
      have HRS : Hid (Wds (withS (ofS [old]) c)) := withS_wds (ofS_wds _) c
      have HRE : Hid (ofS [old, c] = withS (ofS [old]) c) := rfl
      have HBC : Hid (bitB (withS (ofS [old]) c) (hashN c) = true ∧ bitB (withS (ofS [old]) c) (hashN old) = true) := by
        refine ⟨by unfold withS; rw [bitB_putB]; simp, ?_⟩
        show bitB (putB (putB noS (hashN old)) (hashN c)) (hashN old) = true
        rw [bitB_putB, bitB_putB]; simp
      have HOF1 := Lib.hid (of_one old)
      have HOF2 := Lib.hid (of_two old c)
      rw [HRE.out] at HOF2
      clear HRE
      generalize withS (ofS [old]) c = rs at *
      generalize ofS [old] = r1 at *
      clear g1 g2 hG hR HE hheld hd0 hle0 HHV
      go_wp2_with fail
      refine (HPO.out _).mono ?_; rintro e w' ⟨rfl, rfl⟩
      go_wp2_with fail
      refine (HPC.out _).mono ?_; rintro e w' ⟨rfl, rfl⟩
      go_wp2_with fail
      refine HVAL.out.mono ?_; rintro e w4 ⟨rfl, h⟩
      have G4 := Lib.hid (h.box (MG.good _ _ _ _ _ _) #[.int .i64 old] 3)
      clear h HVAL p0 p1 p2 p3 fz HPO HPC
      go_wp2_with fail
      refine (HOF1.out w4 _ rfl).mono ?_; rintro e w5 ⟨rfl, hb5⟩
      have G5 := Lib.hid ((G4.out.calm ((MG.good _ _ _ _ _ _).star (BlkH.good _ _ _)) hb5).fst)
      clear hb5 G4 HOF1
      go_wp2_with fail
      refine (HC.out w5).mono ?_; rintro e w6 ⟨x, xc, rfl, h⟩
      have G6 : Hid (AtW w1 (FO p w2.heap.size x xc n l g d0 c rs false 0 ⟨0, d0, 0, 0, 0⟩) w6) := (G5.out.new (MG.good _ _ _ _ _ _) h).imp fun _ h => h.assocL
      clear h G5 HC
      go_wp2_with fail
      go_loopw [20] (fun i wr => ∃ j : Nat, j ≤ l2 ∧ i = .int .i64 j ∧ Hid (∃ l g rd val st, AtW w1 (FO p w2.heap.size x xc n l g d0 c rs rd val st) wr ∧ RingOk n 8 g l (k + j) ∧ SafeInv n d0 rs g st ∧ FVal g d0 c rd val st ∧ (rd = false → st.st = 0) ∧ valN g.es d0 old = held ∧ d0 ≤ g.es.length)) (fun i _ => l2 - (intOf i).toNat)
      case atStart => exact ⟨0, by omega, rfl, l, g, false, 0, _, G6.out, G2.out, HI.out, FVal.no _ _ _ _ _, fun _ => rfl, HELD.out, hdle.out⟩
      case round =>
        obtain ⟨j, hj, rfl, HE⟩ := hrel
        clear G6 G2 HI HELD hdle
        by_cases hltj : j < l2
        · obtain ⟨l, g, rd, val, st, g1, g2, g3, g4, g5, g6, g7⟩ := HE.out
          obtain ⟨b, off, rfl, t0, t1, hgr, hsl, hki, hq⟩ := turn_at HT2.out (B1.out.trans (g1.below.mono B1.out.size)) hltj
          by_cases hz : k2 j = 0
          · rw [hz] at t0
            have HST := Lib.hid (fet_step hn1 hn2 HRS.out (by omega) (by omega) g1 g2 g3 g4 g5 (by omega))
            have HLD := Lib.hid (And.intro g6 g7)
            clear hgr hq hki HE g1 g2 g3 g4 g5 g6 g7 hz
            go_wp2_with fail
            refine HST.out.mono ?_; rintro e w5 ⟨kd, er, v, bo, l', val', st', rfl, m1, m2, m3, m4, m5, m6⟩
            have M1 := Lib.hid (m1.box (FO.good _ _ _ _ _ _ _ _ _ _ _ _ _) #[.int .i64 kd, .int .i64 er, .int .i64 v, .bool bo] 49)
            have GA := Lib.hid ((FO.good p w2.heap.size x xc n l' g d0 c rs true val' st').star (BlkH.good w5.heap.size #[.int .i64 kd, .int .i64 er, .int .i64 v, .bool bo] 49))
            obtain ⟨FG, hG⟩ := M1.out.has.left.left.left.right
            obtain ⟨la, lc, hR⟩ := hG.read
            obtain ⟨p0, p1, p2, p3, fz⟩ := four_cells hR.hp
            have hes : g.es.length ≤ 100000000 := m2.inv.big
            have M2 := Lib.hid m2
            have M3 := Lib.hid m3
            have M4 := Lib.hid m4
            have M5 := Lib.hid m5
            have M6 := Lib.hid m6
            clear m1 m2 m3 m4 m5 m6 hG hR HST t0 t1
            unfold ansV
            go_wp2_with fail
            have K1 := Lib.hid (M1.out.box GA.out #[.int .i64 old, .int .i64 c] 3)
            refine (HOF2.out (w5.alloc (.cells #[.int .i64 kd, .int .i64 er, .int .i64 v, .bool bo] 49)) _ (by simp)).mono ?_; rintro e w6 ⟨rfl, hb6⟩
            have K2 := Lib.hid (((K1.out.calm (GA.out.star (BlkH.good _ _ _)) hb6).fst).box GA.out #[.int .u64 (rs 0), .int .u64 (rs 1), .int .u64 (rs 2), .int .u64 (rs 3), .int .u64 (rs 4), .int .u64 (rs 5), .int .u64 (rs 6), .int .u64 (rs 7)] 45)
            have GB := Lib.hid (GA.out.star (BlkH.good w6.heap.size #[.int .u64 (rs 0), .int .u64 (rs 1), .int .u64 (rs 2), .int .u64 (rs 3), .int .u64 (rs 4), .int .u64 (rs 5), .int .u64 (rs 6), .int .u64 (rs 7)] 45))
            obtain ⟨d_0, d_1, d_2, d_3, d_4, d_5, d_6, d_7, dz⟩ := blk_facts K2.out.has.right.blk
            have HSH := Lib.hid ((Looks.left (B := BlkH w6.heap.size #[.int .u64 (rs 0), .int .u64 (rs 1), .int .u64 (rs 2), .int .u64 (rs 3), .int .u64 (rs 4), .int .u64 (rs 5), .int .u64 (rs 6), .int .u64 (rs 7)] 45) (Looks.left (B := BlkH w5.heap.size #[.int .i64 kd, .int .i64 er, .int .i64 v, .bool bo] 49) (Looks.left (B := FetH x xc n c rs true val') (Looks.left (B := ChkH xc n d0 rs true st') (Looks.right (A := MemH p n 8 l') (shares_any w2.heap.size n 8 l' g M2.out.inv d0 g.es.length rs HRS.out)))))).at GB.out K2.out)
            clear hb6 K1 M1 p0 p1 p2 p3 fz K2
            obtain ⟨sb, hsb⟩ : ∃ sb, sharesB g.es d0 g.es.length rs = sb := ⟨_, rfl⟩
            have hsb1 : sharesG g.es d0 g.es.length rs → sb = true := fun h => by rw [← hsb]; exact sharesB_true h
            rw [hsb] at HSH
            clear hsb
            go_wp2_with fail
            refine HSH.out.mono ?_; rintro e w7 ⟨rfl, h⟩
            have M7 := Lib.hid h.fst
            obtain ⟨y0, y1, y2, y3, yz⟩ := four_cells h.has.left.right.blk
            clear h HSH d_0 d_1 d_2 d_3 d_4 d_5 d_6 d_7 dz GB
            have hm6 := M6.out
            rcases hm6 with rfl | ⟨rfl, hm7⟩ | ⟨rfl, hm7⟩
            · go_wp2_with fail
              by_cases hst4 : st'.st = 4
              · have HSTA := Lib.hid ((Looks.left (B := BlkH w5.heap.size #[.int .i64 kd, .int .i64 0, .int .i64 v, .bool bo] 49) (Looks.pre (O' := Star (ChkH xc n d0 rs true st') (FetH x xc n c rs true val')) (fun w h => h.tail) (fetStart_any x xc n d0 c rs true val' st' _ _ _ (chkStart_yes xc n d0 rs true st' hst4)))).at GA.out M7.out)
                obtain ⟨th1, th2, th3, th4⟩ := M3.out.thr hst4
                obtain ⟨tl1, tl2, tl3⟩ := FVal.tells (old := old) M2.out.inv HRS.out HBC.out.1 HBC.out.2 M4.out M3.out hst4
                rw [HLD.out.1] at tl3
                have hs2 : decide ((g.done : Int) < st'.start) = false := by simp; omega
                have HTL := Lib.hid (And.intro tl2 tl3)
                clear hst4 th1 th2 th3 th4 tl1 tl2 tl3 M7
                refine HSTA.out.mono ?_; rintro e w8 ⟨rfl, h⟩
                have HV1 := Lib.hid (fun (w : World) (h : AtW w1 (Star (FO p w2.heap.size x xc n l' g d0 c rs true val' st') (BlkH w5.heap.size #[.int .i64 kd, .int .i64 0, .int .i64 v, .bool bo] 49)) w) (c' : Int) => (Looks.left (B := BlkH w5.heap.size #[.int .i64 kd, .int .i64 0, .int .i64 v, .bool bo] 49) (Looks.left (B := FetH x xc n c rs true val') (Looks.left (B := ChkH xc n d0 rs true st') (Looks.right (A := MemH p n 8 l') (value_any w2.heap.size n g hes c' st'.seen))))).at GA.out h)
                have H8 := Lib.hid h
                clear h HSTA
                go_wp2_with fail
                have HVC := HV1.out _ H8.out c
                rw [← HTL.out.1] at HVC
                refine HVC.mono ?_; rintro e w9 ⟨rfl, h⟩
                have H9 := Lib.hid h
                clear h HVC H8
                go_wp2_with fail
                have HVO := HV1.out _ H9.out old
                rw [HTL.out.2] at HVO
                refine HVO.mono ?_; rintro e w10 ⟨rfl, h⟩
                obtain ⟨y0, y1, y2, y3, yz⟩ := four_cells h.has.right.blk
                obtain ⟨FG, hG⟩ := h.has.left.left.left.right
                obtain ⟨la, lc, hR⟩ := hG.read
                obtain ⟨p0, p1, p2, p3, fz⟩ := four_cells hR.hp
                have H10 : Hid (∃ l g rd val st, AtW w1 (FO p w2.heap.size x xc n l g d0 c rs rd val st) w10 ∧ RingOk n 8 g l (k + (j + 1)) ∧ SafeInv n d0 rs g st ∧ FVal g d0 c rd val st ∧ (rd = false → st.st = 0) ∧ valN g.es d0 old = held ∧ d0 ≤ g.es.length) := ⟨l', g, true, val', st', h.fst, M2.out, M3.out, M4.out, fun h => (by cases h), HLD.out.1, HLD.out.2⟩
                clear h hG hR HVO HV1 H9
                by_cases hk3 : kd = 3
                · obtain rfl := M5.out hk3
                  subst hk3
                  go_wp2_with fail
                  go_roundw
                  case rel => exact ⟨j + 1, by omega, by go_num, H10.out⟩
                  case measure => simp [intOf]; omega
                · have d3 : (kd == 3) = false := by simp [hk3]
                  clear hk3
                  go_wp2_with fail
                  go_roundw
                  case rel => exact ⟨j + 1, by omega, by go_num, H10.out⟩
                  case measure => simp [intOf]; omega
              · have HSTA := Lib.hid ((Looks.left (B := BlkH w5.heap.size #[.int .i64 kd, .int .i64 0, .int .i64 v, .bool bo] 49) (Looks.pre (O' := Star (ChkH xc n d0 rs true st') (FetH x xc n c rs true val')) (fun w h => h.tail) (fetStart_any x xc n d0 c rs true val' st' _ _ _ (chkStart_no xc n d0 rs true st' hst4)))).at GA.out M7.out)
                clear hst4 M7
                refine HSTA.out.mono ?_; rintro e w8 ⟨rfl, h⟩
                have H10 : Hid (∃ l g rd val st, AtW w1 (FO p w2.heap.size x xc n l g d0 c rs rd val st) w8 ∧ RingOk n 8 g l (k + (j + 1)) ∧ SafeInv n d0 rs g st ∧ FVal g d0 c rd val st ∧ (rd = false → st.st = 0) ∧ valN g.es d0 old = held ∧ d0 ≤ g.es.length) := ⟨l', g, true, val', st', h.fst, M2.out, M3.out, M4.out, fun h => (by cases h), HLD.out.1, HLD.out.2⟩
                clear h HSTA
                go_wp2_with fail
                go_roundw
                case rel => exact ⟨j + 1, by omega, by go_num, H10.out⟩
                case measure => simp [intOf]; omega
            · obtain rfl := hsb1 hm7
              clear hm7
              go_wp2_with fail
              by_cases hst4 : st'.st = 4
              · have HSTA := Lib.hid ((Looks.left (B := BlkH w5.heap.size #[.int .i64 kd, .int .i64 3, .int .i64 v, .bool bo] 49) (Looks.pre (O' := Star (ChkH xc n d0 rs true st') (FetH x xc n c rs true val')) (fun w h => h.tail) (fetStart_any x xc n d0 c rs true val' st' _ _ _ (chkStart_yes xc n d0 rs true st' hst4)))).at GA.out M7.out)
                obtain ⟨th1, th2, th3, th4⟩ := M3.out.thr hst4
                obtain ⟨tl1, tl2, tl3⟩ := FVal.tells (old := old) M2.out.inv HRS.out HBC.out.1 HBC.out.2 M4.out M3.out hst4
                rw [HLD.out.1] at tl3
                have hs2 : decide ((g.done : Int) < st'.start) = false := by simp; omega
                have HTL := Lib.hid (And.intro tl2 tl3)
                clear hst4 th1 th2 th3 th4 tl1 tl2 tl3 M7
                refine HSTA.out.mono ?_; rintro e w8 ⟨rfl, h⟩
                have HV1 := Lib.hid (fun (w : World) (h : AtW w1 (Star (FO p w2.heap.size x xc n l' g d0 c rs true val' st') (BlkH w5.heap.size #[.int .i64 kd, .int .i64 3, .int .i64 v, .bool bo] 49)) w) (c' : Int) => (Looks.left (B := BlkH w5.heap.size #[.int .i64 kd, .int .i64 3, .int .i64 v, .bool bo] 49) (Looks.left (B := FetH x xc n c rs true val') (Looks.left (B := ChkH xc n d0 rs true st') (Looks.right (A := MemH p n 8 l') (value_any w2.heap.size n g hes c' st'.seen))))).at GA.out h)
                have H8 := Lib.hid h
                clear h HSTA
                go_wp2_with fail
                have HVC := HV1.out _ H8.out c
                rw [← HTL.out.1] at HVC
                refine HVC.mono ?_; rintro e w9 ⟨rfl, h⟩
                have H9 := Lib.hid h
                clear h HVC H8
                go_wp2_with fail
                have HVO := HV1.out _ H9.out old
                rw [HTL.out.2] at HVO
                refine HVO.mono ?_; rintro e w10 ⟨rfl, h⟩
                obtain ⟨y0, y1, y2, y3, yz⟩ := four_cells h.has.right.blk
                obtain ⟨FG, hG⟩ := h.has.left.left.left.right
                obtain ⟨la, lc, hR⟩ := hG.read
                obtain ⟨p0, p1, p2, p3, fz⟩ := four_cells hR.hp
                have H10 : Hid (∃ l g rd val st, AtW w1 (FO p w2.heap.size x xc n l g d0 c rs rd val st) w10 ∧ RingOk n 8 g l (k + (j + 1)) ∧ SafeInv n d0 rs g st ∧ FVal g d0 c rd val st ∧ (rd = false → st.st = 0) ∧ valN g.es d0 old = held ∧ d0 ≤ g.es.length) := ⟨l', g, true, val', st', h.fst, M2.out, M3.out, M4.out, fun h => (by cases h), HLD.out.1, HLD.out.2⟩
                clear h hG hR HVO HV1 H9
                by_cases hk3 : kd = 3
                · obtain rfl := M5.out hk3
                  subst hk3
                  go_wp2_with fail
                  go_roundw
                  case rel => exact ⟨j + 1, by omega, by go_num, H10.out⟩
                  case measure => simp [intOf]; omega
                · have d3 : (kd == 3) = false := by simp [hk3]
                  clear hk3
                  go_wp2_with fail
                  go_roundw
                  case rel => exact ⟨j + 1, by omega, by go_num, H10.out⟩
                  case measure => simp [intOf]; omega
              · have HSTA := Lib.hid ((Looks.left (B := BlkH w5.heap.size #[.int .i64 kd, .int .i64 3, .int .i64 v, .bool bo] 49) (Looks.pre (O' := Star (ChkH xc n d0 rs true st') (FetH x xc n c rs true val')) (fun w h => h.tail) (fetStart_any x xc n d0 c rs true val' st' _ _ _ (chkStart_no xc n d0 rs true st' hst4)))).at GA.out M7.out)
                clear hst4 M7
                refine HSTA.out.mono ?_; rintro e w8 ⟨rfl, h⟩
                have H10 : Hid (∃ l g rd val st, AtW w1 (FO p w2.heap.size x xc n l g d0 c rs rd val st) w8 ∧ RingOk n 8 g l (k + (j + 1)) ∧ SafeInv n d0 rs g st ∧ FVal g d0 c rd val st ∧ (rd = false → st.st = 0) ∧ valN g.es d0 old = held ∧ d0 ≤ g.es.length) := ⟨l', g, true, val', st', h.fst, M2.out, M3.out, M4.out, fun h => (by cases h), HLD.out.1, HLD.out.2⟩
                clear h HSTA
                go_wp2_with fail
                go_roundw
                case rel => exact ⟨j + 1, by omega, by go_num, H10.out⟩
                case measure => simp [intOf]; omega
            · have hd1 : decide ((g.es.length : Int) - d0 ≤ n) = false := by simp; omega
              clear hm7
              go_wp2_with fail
              by_cases hst4 : st'.st = 4
              · have HSTA := Lib.hid ((Looks.left (B := BlkH w5.heap.size #[.int .i64 kd, .int .i64 4, .int .i64 v, .bool bo] 49) (Looks.pre (O' := Star (ChkH xc n d0 rs true st') (FetH x xc n c rs true val')) (fun w h => h.tail) (fetStart_any x xc n d0 c rs true val' st' _ _ _ (chkStart_yes xc n d0 rs true st' hst4)))).at GA.out M7.out)
                obtain ⟨th1, th2, th3, th4⟩ := M3.out.thr hst4
                obtain ⟨tl1, tl2, tl3⟩ := FVal.tells (old := old) M2.out.inv HRS.out HBC.out.1 HBC.out.2 M4.out M3.out hst4
                rw [HLD.out.1] at tl3
                have hs2 : decide ((g.done : Int) < st'.start) = false := by simp; omega
                have HTL := Lib.hid (And.intro tl2 tl3)
                clear hst4 th1 th2 th3 th4 tl1 tl2 tl3 M7
                refine HSTA.out.mono ?_; rintro e w8 ⟨rfl, h⟩
                have HV1 := Lib.hid (fun (w : World) (h : AtW w1 (Star (FO p w2.heap.size x xc n l' g d0 c rs true val' st') (BlkH w5.heap.size #[.int .i64 kd, .int .i64 4, .int .i64 v, .bool bo] 49)) w) (c' : Int) => (Looks.left (B := BlkH w5.heap.size #[.int .i64 kd, .int .i64 4, .int .i64 v, .bool bo] 49) (Looks.left (B := FetH x xc n c rs true val') (Looks.left (B := ChkH xc n d0 rs true st') (Looks.right (A := MemH p n 8 l') (value_any w2.heap.size n g hes c' st'.seen))))).at GA.out h)
                have H8 := Lib.hid h
                clear h HSTA
                go_wp2_with fail
                have HVC := HV1.out _ H8.out c
                rw [← HTL.out.1] at HVC
                refine HVC.mono ?_; rintro e w9 ⟨rfl, h⟩
                have H9 := Lib.hid h
                clear h HVC H8
                go_wp2_with fail
                have HVO := HV1.out _ H9.out old
                rw [HTL.out.2] at HVO
                refine HVO.mono ?_; rintro e w10 ⟨rfl, h⟩
                obtain ⟨y0, y1, y2, y3, yz⟩ := four_cells h.has.right.blk
                obtain ⟨FG, hG⟩ := h.has.left.left.left.right
                obtain ⟨la, lc, hR⟩ := hG.read
                obtain ⟨p0, p1, p2, p3, fz⟩ := four_cells hR.hp
                have H10 : Hid (∃ l g rd val st, AtW w1 (FO p w2.heap.size x xc n l g d0 c rs rd val st) w10 ∧ RingOk n 8 g l (k + (j + 1)) ∧ SafeInv n d0 rs g st ∧ FVal g d0 c rd val st ∧ (rd = false → st.st = 0) ∧ valN g.es d0 old = held ∧ d0 ≤ g.es.length) := ⟨l', g, true, val', st', h.fst, M2.out, M3.out, M4.out, fun h => (by cases h), HLD.out.1, HLD.out.2⟩
                clear h hG hR HVO HV1 H9
                by_cases hk3 : kd = 3
                · obtain rfl := M5.out hk3
                  subst hk3
                  go_wp2_with fail
                  go_roundw
                  case rel => exact ⟨j + 1, by omega, by go_num, H10.out⟩
                  case measure => simp [intOf]; omega
                · have d3 : (kd == 3) = false := by simp [hk3]
                  clear hk3
                  go_wp2_with fail
                  go_roundw
                  case rel => exact ⟨j + 1, by omega, by go_num, H10.out⟩
                  case measure => simp [intOf]; omega
              · have HSTA := Lib.hid ((Looks.left (B := BlkH w5.heap.size #[.int .i64 kd, .int .i64 4, .int .i64 v, .bool bo] 49) (Looks.pre (O' := Star (ChkH xc n d0 rs true st') (FetH x xc n c rs true val')) (fun w h => h.tail) (fetStart_any x xc n d0 c rs true val' st' _ _ _ (chkStart_no xc n d0 rs true st' hst4)))).at GA.out M7.out)
                clear hst4 M7
                refine HSTA.out.mono ?_; rintro e w8 ⟨rfl, h⟩
                have H10 : Hid (∃ l g rd val st, AtW w1 (FO p w2.heap.size x xc n l g d0 c rs rd val st) w8 ∧ RingOk n 8 g l (k + (j + 1)) ∧ SafeInv n d0 rs g st ∧ FVal g d0 c rd val st ∧ (rd = false → st.st = 0) ∧ valN g.es d0 old = held ∧ d0 ≤ g.es.length) := ⟨l', g, true, val', st', h.fst, M2.out, M3.out, M4.out, fun h => (by cases h), HLD.out.1, HLD.out.2⟩
                clear h HSTA
                go_wp2_with fail
                go_roundw
                case rel => exact ⟨j + 1, by omega, by go_num, H10.out⟩
                case measure => simp [intOf]; omega
          · have hne : (k2 j != 0) = true := by simp [hz]
            have HQ := Lib.hid hq
            have G2 := Lib.hid g2
            have G3 := Lib.hid (And.intro g3 (And.intro g4 (And.intro g5 (And.intro g6 g7))))
            have HACT := Lib.hid (fun kind => act_at3 (BlkH.good _ _ _) (BlkH.good _ _ _) (g1.calm (FO.good _ _ _ _ _ _ _ _ _ _ _ _ _) ((Below.refl _ _).drew)) g2 hn1 hn2 (by decide) (by decide) (by omega) kind (s2 j).1 (s2 j).2.1 (s2 j).2.2 (q2 j) hsl (hgr.below ((Below.refl _ _).drew)))
            clear HE g1 g2 g3 g4 g5 g6 g7 hgr hq hki
            go_wp2_with fail
            go_still_tail 13, (by kernel_rfl)
            change wpList _ _ _ _ _ wr.drew
            go_wp2_with fail
            refine (HACT.out _).mono ?_; rintro e w5 ⟨rfl, h⟩
            have H5 : Hid (∃ l g rd val st, AtW w1 (FO p w2.heap.size x xc n l g d0 c rs rd val st) w5 ∧ RingOk n 8 g l (k + (j + 1)) ∧ SafeInv n d0 rs g st ∧ FVal g d0 c rd val st ∧ (rd = false → st.st = 0) ∧ valN g.es d0 old = held ∧ d0 ≤ g.es.length) := by
              obtain ⟨r1, r2, r3, r4⟩ := G2.out.act hn1 (by decide) (by omega) _ (q2 j) _ HQ.out
              obtain ⟨g3, g4, g5, g6, g7⟩ := G3.out
              exact ⟨_, _, rd, val, st, h, r1, g3.mono r2 r3 r4, g4.mono r2 g7, g5, by rw [valN_ext r2 old d0 g7]; exact g6, Nat.le_trans g7 r2.1⟩
            clear h HACT t0 t1 G2 G3
            go_wp2_with fail
            go_roundw
            case rel => exact ⟨j + 1, by omega, by go_num, H5.out⟩
            case measure => simp [intOf]; omega
        · obtain rfl : j = l2 := by omega
          obtain ⟨l, g, rd, val, st, g1, _⟩ := HE.out
          go_wp2_with fail
          go_ret
          exact ⟨rfl, B1.out.trans (g1.below.mono B1.out.size)⟩
end Go.Proofs.Ytcbjbmbibnmohaa
