/- Layer 9: the walk of FetchEnds. -/
import Derived.Test.YtcbjbmbibnmohaaW9s
import Derived.Test.YtcbjbmbibnmohaaSGb
import Derived.Test.YtcbjbmbibnmohaaC3p
import Derived.Test.YtcbjbmbibnmohaaW9
namespace Go.Proofs.Ytcbjbmbibnmohaa
open Go.RowKit
set_option linter.unusedVariables false
abbrev EO (p gp x xc n : Nat) (l : List Acc) (g : GS) (d0 : Nat) (c : Int) (rs : Nat → Int) (rd : Bool) (val : Int) (st : CS) : HP := Star (Star (MG p gp n 8 l g) (ChkH xc n d0 rs true st)) (FetH x xc n c rs rd val)
theorem EO.good (p gp x xc n : Nat) (l : List Acc) (g : GS) (d0 : Nat) (c : Int) (rs : Nat → Int) (rd : Bool) (val : Int) (st : CS) : Good (EO p gp x xc n l g d0 c rs rd val st) := ((MG.good _ _ _ _ _ _).star (BlkH.good _ _ _)).star (BlkH.good _ _ _)
theorem SafeInv.at {n : Nat} {rs : Nat → Int} {g : GS} {fr : Int} (h0 : 0 ≤ fr) (h : fr ≤ g.done) : SafeInv n fr rs g ⟨0, fr, 0, 0, 0⟩ := ⟨by omega, by omega, Int.le_refl _, by simp only; omega, .inl ⟨rfl, rfl⟩⟩
/-- Where the machine is behind i steps. -/
def EndI (n : Nat) (g : GS) (l : List Acc) (d0 : Nat) (c v : Int) (rs : Nat → Int) (rd : Bool) (val : Int) (st : CS) (i : Nat) : Prop :=
  SafeInv n d0 rs g st ∧ st.st < 4 ∧ (st.st = 0 ∨ st.seen = g.es.length) ∧ wordOf l 4 c 0 = v ∧ ((rd = false ∧ i = 0 ∧ st.st = 0) ∨ (rd = true ∧ val = v ∧ ∃ m, i = m + 1 ∧ WInv n d0 rs st m))
theorem EndI.lt {n : Nat} {g : GS} {l : List Acc} {d0 : Nat} {c v : Int} {rs : Nat → Int} {rd : Bool} {val : Int} {st : CS} {i : Nat} (h : EndI n g l d0 c v rs rd val st i) (h1 : 1 ≤ n) : i < 3 + 9 * n := by
  obtain ⟨_, h4, _, _, h | ⟨_, _, m, h, hw⟩⟩ := h
  · omega
  · have := hw.lt h4 h1; omega
theorem ends_step {w0 wr : World} {p gp x xc n k i : Nat} {l : List Acc} {g : GS} {d0 : Nat} {c v0 : Int} {rs : Nat → Int} {rd : Bool} {val : Int} {st : CS} (hn1 : 1 ≤ n) (hn2 : n ≤ 16) (hrs : Wds rs) (hc0 : 0 ≤ c) (hc1 : c < 8) (hlaid : g.laid = g.es.length) (h : AtW w0 (EO p gp x xc n l g d0 c rs rd val st) wr) (ho : RingOk n 8 g l k) (hi : EndI n g l d0 c v0 rs rd val st i) (hk : k ≤ 10000000) :
    Calls Try.prog 13 #[.pointer (some ⟨x, 0, none⟩), .pointer (some ⟨p, 0, none⟩), .int .i64 1] wr fun e w' => ∃ kd er v bo l' val' st', e = .returned (ansV kd er v bo) ∧ AtW w0 (EO p gp x xc n l' g d0 c rs true val' st') w' ∧ RingOk n 8 g l' (k + 1) ∧
      ((kd = 2 ∧ EndI n g l' d0 c v0 rs true val' st' (i + 1)) ∨ (kd = 3 ∧ v = v0 ∧ ¬ sharesG g.es d0 g.es.length rs) ∨ (kd = 4 ∧ er = 3 ∧ sharesG g.es d0 g.es.length rs ∧ (g.es.length : Int) - d0 ≤ n) ∨ (kd = 4 ∧ er = 4 ∧ (n : Int) < (g.es.length : Int) - d0)) := by
  have hl := ho.len
  have hm := ho.many
  obtain ⟨i1, h4, i3, i4, i5⟩ := hi
  rcases i5 with ⟨rfl, rfl, hst⟩ | ⟨rfl, rfl, m, rfl, hw⟩
  · refine ((lift_swap2 (GrowH.good gp n g) (fetStep_read p x xc n 8 l (by omega) d0 c hc0 (by omega) rs val st 1)).at h).mono ?_
    rintro e w' ⟨rfl, h⟩
    exact ⟨2, 0, 0, true, _, _, st, rfl, h, ho.ld _ _ _ _ _, .inl ⟨rfl, i1, h4, i3, by rw [wordOf_ld]; exact i4, .inr ⟨rfl, i4, 0, rfl, .inl ⟨hst, rfl⟩⟩⟩⟩
  · have hS := SafeInv.step ho.inv hn1 hn2 hrs i1 h4 true rfl
    have hE := SafeInv.ends (rs := rs) ho.inv hn1 hn2 i1 h4 hlaid i3
    have hK := stepK_kinds n d0 rs true st (wordOf l (addrK n st).1 (addrK n st).2.1 (addrK n st).2.2)
    obtain ⟨⟨a, b, c'⟩, ha⟩ : ∃ t, addrK n st = t := ⟨_, rfl⟩
    obtain ⟨v, hvv⟩ : ∃ v, wordOf l a b c' = v := ⟨_, rfl⟩
    obtain ⟨⟨st', kd, er⟩, hs⟩ : ∃ t, stepK n d0 rs true st v = t := ⟨_, rfl⟩
    have hvI : I64 v := hvv ▸ ho.inv.okw a b c'
    rw [ha] at hS hK hE
    simp only at hS hK hE
    rw [hvv, hs] at hS hK hE
    simp only at hS hK hE
    obtain ⟨s1, s2, s3, s4⟩ := hS
    obtain ⟨e1, e2, e3, e4, e5⟩ := hE
    have hgo := chkStep_go p xc n 8 l (by omega) hn1 hn2 d0 i1.1 rs hrs true st 1 (i1.rng h4 (by omega)) a b c' ha v hvv hvI st' kd er hs
    by_cases hk3 : kd = 3
    · subst hk3
      refine ((lift_swap2 (GrowH.good gp n g) (fetStep_done p x xc n 8 l _ (CStep.good _ _ _ _ _ _ _ _ _ _) er true d0 c (by omega) rs val st 1 hgo)).at h).mono ?_
      rintro e w' ⟨rfl, h⟩
      have h44 := e5 rfl
      have hth := s1.thr h44
      rw [e1] at hth
      exact ⟨3, er, val, true, _, val, st', rfl, h, ho.ld _ _ _ _ _, .inr (.inl ⟨rfl, rfl, hth.1⟩)⟩
    · refine ((lift_swap2 (GrowH.good gp n g) (fetStep_on p x xc n 8 l _ (CStep.good _ _ _ _ _ _ _ _ _ _) kd er hk3 true d0 c (by omega) rs val st 1 hgo)).at h).mono ?_
      rintro e w' ⟨rfl, h⟩
      refine ⟨kd, er, 0, true, _, val, st', rfl, h, ho.ld _ _ _ _ _, ?_⟩
      rcases hK with ⟨rfl, rfl⟩ | ⟨rfl, rfl⟩ | ⟨rfl, rfl⟩ | ⟨rfl, rfl⟩ | ⟨rfl, rfl⟩
      · exact absurd rfl e2
      · rcases hw.step h4 true v hvI.2 st' 2 0 hs with ⟨q, _⟩ | ⟨_, q, _⟩
        · omega
        · exact .inl ⟨rfl, s1, e4 rfl, .inr e1, by rw [wordOf_ld]; exact i4, .inr ⟨rfl, rfl, m + 1, rfl, q⟩⟩
      · exact absurd rfl hk3
      · have := e3 rfl
        exact .inr (.inr (.inl ⟨rfl, rfl, s2 rfl, by omega⟩))
      · have := s3 rfl
        exact .inr (.inr (.inr ⟨rfl, rfl, by omega⟩))
theorem oneInt (w : World) (a : Int) : IntsAt (w.alloc (.cells #[.int .i64 a] 3)) (some ⟨w.heap.size, 0, none⟩) 1 [a] := ⟨rfl, .inr ⟨w.heap.size, 0, rfl, by simp, fun i hi => by
  match i, hi with
  | 0, _ => simp⟩⟩
theorem ofOne (a : Int) (w : World) (b : Nat) (hb : b = w.heap.size) : Calls Try.prog 12 #[.slice (some ⟨b, 0, none⟩) 1 1] (w.alloc (.cells #[.int .i64 a] 3)) fun e w' => e = .returned (.agg #[.int .u64 (ofS [a] 0), .int .u64 (ofS [a] 1), .int .u64 (ofS [a] 2), .int .u64 (ofS [a] 3), .int .u64 (ofS [a] 4), .int .u64 (ofS [a] 5), .int .u64 (ofS [a] 6), .int .u64 (ofS [a] 7)]) ∧ Below (w.alloc (.cells #[.int .i64 a] 3)).heap.size (w.alloc (.cells #[.int .i64 a] 3)) w' :=
  hb ▸ refOf_any _ 1 1 [a] _ (oneInt w a) (by decide)
/-- How many entries aren't laid, by the world. -/
def leftN (x : Nat) (w : World) : Nat := match w.cell? ⟨x, 1, none⟩, w.cell? ⟨x, 2, none⟩ with
  | some (.slice _ n _), some (.int _ k) => n - k.toNat
  | _, _ => 0
theorem leftN_at {w : World} {x n : Nat} {la : Option Addr} {lc : Nat} {g : GS} (h : w.heap[x]? = some (.cells #[.int .i64 n, .slice la g.es.length lc, .int .i64 g.laid, .int .i64 g.done] 34)) : leftN x w = g.es.length - g.laid := by
  obtain ⟨p0, p1, p2, p3, fz⟩ := four_cells h
  unfold leftN
  rw [p1, p2]
  simp
set_option maxHeartbeats 3000000 in
set_option maxRecDepth 100000 in
theorem fetchEnds_law {w : World} (raw back cell : Int) (a1 : Option Addr) (l1 c1 : Nat) (k1 : Nat → Int) (s1 : Nat → Option Addr × Nat × Nat) (q1 : Nat → Nat → Nat → Int) (ht1 : Turns w a1 l1 k1 s1 q1) (hb1 : l1 ≤ 1048576) :
    Calls Try.prog 4 #[.agg #[.int .i64 raw, .int .i64 back, .int .i64 cell, .slice a1 l1 c1]] w fun e w' => e = .returned (.bool true) ∧ Below w.heap.size w w' := by
  have HT1 := Lib.hid ht1
  have hp := pickZ_range raw 16 (by decide)
  obtain ⟨n, hn⟩ : ∃ n : Nat, 1 + pickZ raw 16 = n := ⟨(1 + pickZ raw 16).toNat, by omega⟩
  have hn1 : 1 ≤ n := by omega
  have hn2 : n ≤ 16 := by omega
  have HP := Lib.hid (pick_any raw 16 (by decide) (by decide))
  generalize pickZ raw 16 = pz at *
  obtain rfl : pz = (n : Int) - 1 := by omega
  have HB0 : Hid (∀ a, Below w.heap.size w (w.alloc a)) := fun a => (Below.refl _ _).alloc (Nat.le_refl _) _
  have e0 : (1 : Int) + ((n : Int) - 1) = n := by omega
  have HM := Lib.hid (memNew_any 8 n (by decide) (by decide) hn1 (by omega))
  have hpo := pickZ_range back 4 (by decide)
  have HPO : Hid (∀ w, Calls Try.prog 7 #[.int .i64 back, .int .i64 4] w fun e w' => e = .returned (.int .i64 (pickZ back 4)) ∧ w' = w) := fun w => (pick_any back 4 (by decide) (by decide) w).mono fun e w' ⟨h1, h2⟩ => ⟨h1, h2.symm⟩
  generalize pickZ back 4 = bk at *
  have hpc := pickZ_range cell 8 (by decide)
  have HPC := Lib.hid (pick_any cell 8 (by decide) (by decide))
  generalize pickZ cell 8 = c at *
  clear ht1 hp hn
  go_enter Try.func4, Try.ntmps4
  go_wp2_with fail
  refine (shown9_any _).mono ?_; rintro e w1 ⟨rfl, hb⟩
  have B1 := Lib.hid ((HB0.out _).trans (hb.mono (by simp)))
  clear hb HB0
  go_wp2_with fail
  refine (HP.out w1).mono ?_; rintro e w' ⟨rfl, rfl⟩
  go_wp2_with fail
  refine (HM.out w1).mono ?_; rintro e w2 ⟨p, rfl, h⟩
  have HA1 : Hid (AtW w1 (MG p w2.heap.size n 8 [] ⟨[], 0, 0⟩) (w2.alloc (.cells #[.int .i64 n, .slice none 0 0, .int .i64 0, .int .i64 0] 34))) := h.new (MemH.good _ _ _ _) (grow_new w2 n)
  clear h HM HP
  go_wp2_with fail
  go_loopw [12] (fun i wr => ∃ k : Nat, k ≤ l1 ∧ i = .int .i64 k ∧ Hid (∃ l g, AtW w1 (MG p w2.heap.size n 8 l g) wr ∧ RingOk n 8 g l k)) (fun i _ => l1 - (intOf i).toNat)
  case atStart => exact ⟨0, by omega, rfl, [], ⟨[], 0, 0⟩, HA1.out, RingOk.nil _ _⟩
  case round =>
    obtain ⟨k, hk, rfl, HE⟩ := hrel
    clear HA1
    by_cases hlt : k < l1
    · obtain ⟨l, g, g1, g2⟩ := HE.out
      obtain ⟨b, off, rfl, t0, t1, hgr, hsl, hki, hq⟩ := turn_at HT1.out (B1.out.trans (g1.below.mono B1.out.size)) hlt
      have HQ := Lib.hid hq
      have G2 := Lib.hid g2
      have HACT := Lib.hid (act_at (g1.calm (MG.good _ _ _ _ _ _) ((Below.refl _ _).drew)) g2 hn1 hn2 (by decide) (by decide) (by omega) (k1 k) (s1 k).1 (s1 k).2.1 (s1 k).2.2 (q1 k) hsl (hgr.below ((Below.refl _ _).drew)))
      clear HE g1 g2 hgr hq hki
      go_wp2_with fail
      go_still_tail 12, (by kernel_rfl)
      change wpList _ _ _ _ _ wr.drew
      go_wp2_with fail
      refine HACT.out.mono ?_; rintro e w4 ⟨rfl, h⟩
      have H4 : Hid (∃ l g, AtW w1 (MG p w2.heap.size n 8 l g) w4 ∧ RingOk n 8 g l (k + 1)) := ⟨_, _, h, (G2.out.act hn1 (by decide) (by omega) (k1 k) (q1 k) _ HQ.out).1⟩
      clear h HACT t0 t1 G2
      go_wp2_with fail
      go_roundw
      case rel => exact ⟨k + 1, by omega, by go_num, H4.out⟩
      case measure => simp [intOf]; omega
    · obtain rfl : k = l1 := by omega
      go_wp2_with fail
      go_loopw [79] (fun _ wq => Hid (∃ l g m, AtW w1 (MG p w2.heap.size n 8 l g) wq ∧ GInv n 8 g l ∧ l.length ≤ 20 * (k + m) ∧ m ≤ g.laid ∧ g.es.length ≤ k)) (fun _ wq => leftN w2.heap.size wq)
      case atStart =>
        obtain ⟨l, g, g1, g2⟩ := HE.out
        exact ⟨l, g, 0, g1, g2.inv, g2.len, Nat.zero_le _, g2.many⟩
      case round =>
        have HL := hrel
        clear HE
        obtain ⟨l, g, m, g1, g2, g3, g4, g5⟩ := HL.out
        obtain ⟨FG, hG⟩ := g1.has.right
        obtain ⟨la, lc, hR⟩ := hG.read
        obtain ⟨p0, p1, p2, p3, fz⟩ := four_cells hR.hp
        have hll := g2.ll
        by_cases hlt2 : g.laid < g.es.length
        · have d0 : decide ((g.laid : Int) < g.es.length) = true := by simpa using hlt2
          have HLN := Lib.hid (leftN_at hR.hp)
          obtain ⟨e, he⟩ : ∃ e, g.es[g.laid]? = some e := ⟨_, List.getElem?_eq_getElem hlt2⟩
          have HLG : Hid ((layG n g l).1.es = g.es ∧ (layG n g l).1.laid = g.laid + 1) := by
            show _ ∧ _
            unfold layG; rw [he]; exact ⟨rfl, rfl⟩
          have HGI := Lib.hid (And.intro (layG_inv g2 hn1) (layG_len n g l))
          have G1 := Lib.hid g1
          have G2 := Lib.hid g2
          clear hG hR he g1 g2
          go_wp2_with fail
          go_quiet (fail)
          have HACT := Lib.hid (at_it (G1.out.calm (MG.good _ _ _ _ _ _) (below_drewN (Below.refl wr.heap.size wr) nq)) (fun F hF => act_lay p w2.heap.size n 8 l g G2.out hn1 hn2 (by omega) 1 (by decide) (.slice none 0 0) _ F hF))
          go_wp2_with fail
          refine HACT.out.mono ?_; rintro e w4 ⟨rfl, h⟩
          have H4 := Lib.hid h
          have HM4 : Hid (leftN w2.heap.size w4 = g.es.length - (g.laid + 1)) := by
            obtain ⟨FG, hG⟩ := h.has.right
            obtain ⟨la, lc, hR⟩ := hG.read
            have := leftN_at hR.hp
            rw [HLG.out.1, HLG.out.2] at this
            exact this
          clear h HACT p0 p1 p2 p3 fz d0
          go_wp2_with fail
          go_roundw
          case rel =>
            obtain ⟨r1, r2⟩ := HGI.out
            exact ⟨_, _, m + 1, H4.out, r1.inv, by have := r2.1; omega, by rw [HLG.out.2]; omega, by rw [HLG.out.1]; omega⟩
          case measure => rw [HM4.out, HLN.out]; omega
        · have hlaid : g.laid = g.es.length := by omega
          have d0 : decide ((g.laid : Int) < g.es.length) = false := by simpa using hlt2
          have hdn : g.done ≤ g.es.length := Nat.le_trans g2.dl g2.ll
          have HRO : Hid (RingOk n 8 g l (2 * k)) := ⟨g2, by omega, by omega⟩
          have G1 := Lib.hid g1
          have hes := g2.big
          have HOF := Lib.hid (ofOne c)
          have HRE : Hid (ofS [c] = withS noS c) := rfl
          rw [HRE.out] at HOF
          have HRS : Hid (Wds (withS noS c)) := withS_wds noS_wds c
          clear hG hR g1 g2 hlt2 HL hrel
          by_cases hneg : (g.done : Int) - bk < 0
          · have d1 : decide ((g.done : Int) - bk < 0) = true := by simpa using hneg
            have HC := Lib.hid (fetNew_any n ((0 : Nat) : Int) noS noS_wds c (by omega) (by omega) (by omega) (by omega) (by omega))
            have HI : Hid (SafeInv n ((0 : Nat) : Int) (withS noS c) g ⟨0, ((0 : Nat) : Int), 0, 0, 0⟩) := SafeInv.at (by omega) (by omega)
            unfold FetNew at HC
            generalize withS noS c = rs at *
            go_wp2_with fail
            go_quiet (fail)
            have G5a := Lib.hid (G1.out.calm (MG.good _ _ _ _ _ _) (below_drewN (Below.refl wr.heap.size wr) nq))
            clear p0 p1 p2 p3 fz G1
            generalize wr.drewN nq = wq4 at *
            obtain ⟨FG, hG⟩ := G5a.out.has.right
            obtain ⟨la4, lc4, hR⟩ := hG.read
            obtain ⟨p0, p1, p2, p3, fz⟩ := four_cells hR.hp
            clear hG hR
            go_wp2_with fail
            go_quiet ((go_at_call 7; refine Calls.quiet_of_same (HPO.out _)))
            have G5 := Lib.hid (G5a.out.calm (MG.good _ _ _ _ _ _) (below_drewN (Below.refl wq4.heap.size wq4) nq))
            clear p0 p1 p2 p3 fz G5a
            generalize wq4.drewN nq = wq5 at *
            go_wp2_with fail
            refine (HPC.out _).mono ?_; rintro e w' ⟨rfl, rfl⟩
            obtain ⟨v, hv⟩ : ∃ v, wordOf l 4 c 0 = v := ⟨_, rfl⟩
            have HPK := Lib.hid ((Looks.left (B := GrowH w2.heap.size n g) (peek_in p n 8 l 4 c 0 (.inr (.inr (.inr ⟨rfl, ⟨hpc.1, by omega⟩, rfl⟩))))).at (MG.good _ _ _ _ _ _) G5.out)
            rw [hv] at HPK
            have HV := Lib.hid hv
            clear hv
            go_wp2_with fail
            refine HPK.out.mono ?_; rintro e w6 ⟨rfl, h⟩
            have H6 := Lib.hid h
            clear h HPK G5
            go_wp2_with fail
            refine (HC.out w6).mono ?_; rintro e w7 ⟨x, xc, rfl, h⟩
            have G7 : Hid (AtW w1 (EO p w2.heap.size x xc n l g 0 c rs false 0 ⟨0, ((0 : Nat) : Int), 0, 0, 0⟩) w7) := (H6.out.new (MG.good _ _ _ _ _ _) h).imp fun _ h => h.assocL
            obtain ⟨FG, hG⟩ := G7.out.has.left.left.right
            obtain ⟨la7, lc7, hR⟩ := hG.read
            obtain ⟨p0, p1, p2, p3, fz⟩ := four_cells hR.hp
            clear h HC H6 hG hR
            go_wp2_with fail
            refine (HOF.out w7 _ rfl).mono ?_; rintro e w8 ⟨rfl, hb8⟩
            have K2 := Lib.hid ((((G7.out.box (EO.good _ _ _ _ _ _ _ _ _ _ _ _ _) #[.int .i64 c] 3).calm ((EO.good _ _ _ _ _ _ _ _ _ _ _ _ _).star (BlkH.good _ _ _)) hb8).fst).box (EO.good _ _ _ _ _ _ _ _ _ _ _ _ _) #[.int .u64 (rs 0), .int .u64 (rs 1), .int .u64 (rs 2), .int .u64 (rs 3), .int .u64 (rs 4), .int .u64 (rs 5), .int .u64 (rs 6), .int .u64 (rs 7)] 45)
            obtain ⟨e_0, e_1, e_2, e_3, e_4, e_5, e_6, e_7, ez⟩ := blk_facts K2.out.has.right.blk
            have HSH := Lib.hid ((Looks.left (B := BlkH w8.heap.size #[.int .u64 (rs 0), .int .u64 (rs 1), .int .u64 (rs 2), .int .u64 (rs 3), .int .u64 (rs 4), .int .u64 (rs 5), .int .u64 (rs 6), .int .u64 (rs 7)] 45) (Looks.left (B := FetH x xc n c rs false 0) (Looks.left (B := ChkH xc n ((0 : Nat) : Int) rs true ⟨0, ((0 : Nat) : Int), 0, 0, 0⟩) (Looks.right (A := MemH p n 8 l) (shares_any w2.heap.size n 8 l g HRO.out.inv ((0 : Nat) : Int) g.es.length rs HRS.out))))).at ((EO.good _ _ _ _ _ _ _ _ _ _ _ _ _).star (BlkH.good _ _ _)) K2.out)
            obtain ⟨sb, hsb⟩ : ∃ sb, sharesB g.es ((0 : Nat) : Int) g.es.length rs = sb := ⟨_, rfl⟩
            have hsb1 : Hid (sharesG g.es ((0 : Nat) : Int) g.es.length rs → sb = true) := fun h => by rw [← hsb]; exact sharesB_true h
            have hsb2 : Hid (¬ sharesG g.es ((0 : Nat) : Int) g.es.length rs → sb = false) := fun h => by rw [← hsb]; exact sharesB_false h
            rw [hsb] at HSH
            clear hsb hb8 G7 p0 p1 p2 p3 fz K2 HOF
            go_wp2_with fail
            refine HSH.out.mono ?_; rintro e w9 ⟨rfl, h⟩
            have G9 := Lib.hid h.fst
            clear h HSH e_0 e_1 e_2 e_3 e_4 e_5 e_6 e_7 ez
            go_wp2_with fail
            go_loopw [22] (fun i wq => ∃ j : Nat, i = .int .i64 j ∧ Hid (∃ l rd val st, AtW w1 (EO p w2.heap.size x xc n l g 0 c rs rd val st) wq ∧ RingOk n 8 g l (2 * k + j) ∧ EndI n g l 0 c v rs rd val st j)) (fun i _ => 3 + 9 * n - (intOf i).toNat)
            case atStart => exact ⟨0, rfl, l, false, 0, _, G9.out, HRO.out, HI.out, (by show (0 : Int) < 4; decide), .inl rfl, HV.out, .inl ⟨rfl, rfl, rfl⟩⟩
            case round =>
              obtain ⟨j, rfl, HE⟩ := hrel
              clear G9 HRO HI HV
              obtain ⟨l, rd, val, st, g1, g2, g3⟩ := HE.out
              have hj := g3.lt hn1
              have hj1 : (j : Int) < 3 + 9 * n := by omega
              have HST := Lib.hid (ends_step hn1 hn2 HRS.out (by omega) (by omega) hlaid g1 g2 g3 (by omega))
              clear HE g1 g2 g3
              go_wp2_with fail
              refine HST.out.mono ?_; rintro e w10 ⟨kd, er, v', bo, l', val', st', rfl, m1, m2, m3⟩
              have M1 := Lib.hid (m1.box (EO.good _ _ _ _ _ _ _ _ _ _ _ _ _) #[.int .i64 kd, .int .i64 er, .int .i64 v', .bool bo] 49)
              have M2 := Lib.hid m2
              clear m1 m2 HST
              unfold ansV
              rcases m3 with ⟨rfl, m4⟩ | ⟨rfl, rfl, m4⟩ | ⟨rfl, rfl, m4, m5⟩ | ⟨rfl, rfl, m4⟩
              · have M4 := Lib.hid m4
                clear m4
                go_wp2_with fail
                go_roundw
                case rel => exact ⟨j + 1, by go_num, l', true, val', st', M1.out.fst, M2.out, M4.out⟩
                case measure => simp [intOf]; omega
              · obtain rfl := hsb2.out m4
                clear m4
                go_wp2_with fail
                go_ret
                exact ⟨ret_bool (by simp), B1.out.trans (M1.out.below.mono B1.out.size)⟩
              · obtain rfl := hsb1.out m4
                have d3 : decide ((n : Int) < (g.es.length : Int)) = false := by simp; omega
                have hfar : g.es.length ≤ n := by omega
                clear m4 m5
                go_wp2_with fail
                go_ret
                exact ⟨ret_bool (by simp <;> omega), B1.out.trans (M1.out.below.mono B1.out.size)⟩
              · have d3 : decide ((n : Int) < (g.es.length : Int)) = true := by simp; omega
                have hfar : n < g.es.length := by omega
                clear m4
                go_wp2_with fail
                go_ret
                exact ⟨ret_bool (by simp), B1.out.trans (M1.out.below.mono B1.out.size)⟩
          · have d1 : decide ((g.done : Int) - bk < 0) = false := by simpa using hneg
            obtain ⟨d0', hd0⟩ : ∃ d0 : Nat, (g.done : Int) - bk = d0 := ⟨((g.done : Int) - bk).toNat, by omega⟩
            have hdd : d0' ≤ g.done := by omega
            have HC := Lib.hid (fetNew_any n d0' noS noS_wds c (by omega) (by omega) (by omega) (by omega) (by omega))
            have HI : Hid (SafeInv n d0' (withS noS c) g ⟨0, d0', 0, 0, 0⟩) := SafeInv.at (by omega) (by omega)
            unfold FetNew at HC
            generalize withS noS c = rs at *
            go_wp2_with fail
            go_quiet (fail)
            have G5a := Lib.hid (G1.out.calm (MG.good _ _ _ _ _ _) (below_drewN (Below.refl wr.heap.size wr) nq))
            clear p0 p1 p2 p3 fz G1
            generalize wr.drewN nq = wq4 at *
            obtain ⟨FG, hG⟩ := G5a.out.has.right
            obtain ⟨la4, lc4, hR⟩ := hG.read
            obtain ⟨p0, p1, p2, p3, fz⟩ := four_cells hR.hp
            clear hG hR
            go_wp2_with fail
            go_quiet ((go_at_call 7; refine Calls.quiet_of_same (HPO.out _)))
            rw [hd0] at *
            clear hd0 d1 hneg
            have G5 := Lib.hid (G5a.out.calm (MG.good _ _ _ _ _ _) (below_drewN (Below.refl wq4.heap.size wq4) nq))
            clear p0 p1 p2 p3 fz G5a
            generalize wq4.drewN nq = wq5 at *
            go_wp2_with fail
            refine (HPC.out _).mono ?_; rintro e w' ⟨rfl, rfl⟩
            obtain ⟨v, hv⟩ : ∃ v, wordOf l 4 c 0 = v := ⟨_, rfl⟩
            have HPK := Lib.hid ((Looks.left (B := GrowH w2.heap.size n g) (peek_in p n 8 l 4 c 0 (.inr (.inr (.inr ⟨rfl, ⟨hpc.1, by omega⟩, rfl⟩))))).at (MG.good _ _ _ _ _ _) G5.out)
            rw [hv] at HPK
            have HV := Lib.hid hv
            clear hv
            go_wp2_with fail
            refine HPK.out.mono ?_; rintro e w6 ⟨rfl, h⟩
            have H6 := Lib.hid h
            clear h HPK G5
            go_wp2_with fail
            refine (HC.out w6).mono ?_; rintro e w7 ⟨x, xc, rfl, h⟩
            have G7 : Hid (AtW w1 (EO p w2.heap.size x xc n l g d0' c rs false 0 ⟨0, d0', 0, 0, 0⟩) w7) := (H6.out.new (MG.good _ _ _ _ _ _) h).imp fun _ h => h.assocL
            obtain ⟨FG, hG⟩ := G7.out.has.left.left.right
            obtain ⟨la7, lc7, hR⟩ := hG.read
            obtain ⟨p0, p1, p2, p3, fz⟩ := four_cells hR.hp
            clear h HC H6 hG hR
            go_wp2_with fail
            refine (HOF.out w7 _ rfl).mono ?_; rintro e w8 ⟨rfl, hb8⟩
            have K2 := Lib.hid ((((G7.out.box (EO.good _ _ _ _ _ _ _ _ _ _ _ _ _) #[.int .i64 c] 3).calm ((EO.good _ _ _ _ _ _ _ _ _ _ _ _ _).star (BlkH.good _ _ _)) hb8).fst).box (EO.good _ _ _ _ _ _ _ _ _ _ _ _ _) #[.int .u64 (rs 0), .int .u64 (rs 1), .int .u64 (rs 2), .int .u64 (rs 3), .int .u64 (rs 4), .int .u64 (rs 5), .int .u64 (rs 6), .int .u64 (rs 7)] 45)
            obtain ⟨e_0, e_1, e_2, e_3, e_4, e_5, e_6, e_7, ez⟩ := blk_facts K2.out.has.right.blk
            have HSH := Lib.hid ((Looks.left (B := BlkH w8.heap.size #[.int .u64 (rs 0), .int .u64 (rs 1), .int .u64 (rs 2), .int .u64 (rs 3), .int .u64 (rs 4), .int .u64 (rs 5), .int .u64 (rs 6), .int .u64 (rs 7)] 45) (Looks.left (B := FetH x xc n c rs false 0) (Looks.left (B := ChkH xc n d0' rs true ⟨0, d0', 0, 0, 0⟩) (Looks.right (A := MemH p n 8 l) (shares_any w2.heap.size n 8 l g HRO.out.inv d0' g.es.length rs HRS.out))))).at ((EO.good _ _ _ _ _ _ _ _ _ _ _ _ _).star (BlkH.good _ _ _)) K2.out)
            obtain ⟨sb, hsb⟩ : ∃ sb, sharesB g.es d0' g.es.length rs = sb := ⟨_, rfl⟩
            have hsb1 : Hid (sharesG g.es d0' g.es.length rs → sb = true) := fun h => by rw [← hsb]; exact sharesB_true h
            have hsb2 : Hid (¬ sharesG g.es d0' g.es.length rs → sb = false) := fun h => by rw [← hsb]; exact sharesB_false h
            rw [hsb] at HSH
            clear hsb hb8 G7 p0 p1 p2 p3 fz K2 HOF
            go_wp2_with fail
            refine HSH.out.mono ?_; rintro e w9 ⟨rfl, h⟩
            have G9 := Lib.hid h.fst
            clear h HSH e_0 e_1 e_2 e_3 e_4 e_5 e_6 e_7 ez
            go_wp2_with fail
            go_loopw [22] (fun i wq => ∃ j : Nat, i = .int .i64 j ∧ Hid (∃ l rd val st, AtW w1 (EO p w2.heap.size x xc n l g d0' c rs rd val st) wq ∧ RingOk n 8 g l (2 * k + j) ∧ EndI n g l d0' c v rs rd val st j)) (fun i _ => 3 + 9 * n - (intOf i).toNat)
            case atStart => exact ⟨0, rfl, l, false, 0, _, G9.out, HRO.out, HI.out, (by show (0 : Int) < 4; decide), .inl rfl, HV.out, .inl ⟨rfl, rfl, rfl⟩⟩
            case round =>
              obtain ⟨j, rfl, HE⟩ := hrel
              clear G9 HRO HI HV
              obtain ⟨l, rd, val, st, g1, g2, g3⟩ := HE.out
              have hj := g3.lt hn1
              have hj1 : (j : Int) < 3 + 9 * n := by omega
              have HST := Lib.hid (ends_step hn1 hn2 HRS.out (by omega) (by omega) hlaid g1 g2 g3 (by omega))
              clear HE g1 g2 g3
              go_wp2_with fail
              refine HST.out.mono ?_; rintro e w10 ⟨kd, er, v', bo, l', val', st', rfl, m1, m2, m3⟩
              have M1 := Lib.hid (m1.box (EO.good _ _ _ _ _ _ _ _ _ _ _ _ _) #[.int .i64 kd, .int .i64 er, .int .i64 v', .bool bo] 49)
              have M2 := Lib.hid m2
              clear m1 m2 HST
              unfold ansV
              rcases m3 with ⟨rfl, m4⟩ | ⟨rfl, rfl, m4⟩ | ⟨rfl, rfl, m4, m5⟩ | ⟨rfl, rfl, m4⟩
              · have M4 := Lib.hid m4
                clear m4
                go_wp2_with fail
                go_roundw
                case rel => exact ⟨j + 1, by go_num, l', true, val', st', M1.out.fst, M2.out, M4.out⟩
                case measure => simp [intOf]; omega
              · obtain rfl := hsb2.out m4
                clear m4
                go_wp2_with fail
                go_ret
                exact ⟨ret_bool (by simp), B1.out.trans (M1.out.below.mono B1.out.size)⟩
              · obtain rfl := hsb1.out m4
                have d3 : decide ((n : Int) < (g.es.length : Int) - d0') = false := by simp; omega
                clear m4 m5
                go_wp2_with fail
                go_ret
                exact ⟨ret_bool (by simp <;> omega), B1.out.trans (M1.out.below.mono B1.out.size)⟩
              · have d3 : decide ((n : Int) < (g.es.length : Int) - d0') = true := by simp; omega
                clear m4
                go_wp2_with fail
                go_ret
                exact ⟨ret_bool (by simp), B1.out.trans (M1.out.below.mono B1.out.size)⟩
end Go.Proofs.Ytcbjbmbibnmohaa
