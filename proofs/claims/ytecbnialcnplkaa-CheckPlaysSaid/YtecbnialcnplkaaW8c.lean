/- Layer 8: the walk of CheckWhy. -/
import Derived.Test.YtecbnialcnplkaaG0
import Derived.Test.YtecbnialcnplkaaW8
import Derived.Test.YtecbnialcnplkaaC3j
import Derived.Test.YtecbnialcnplkaaS8
import Derived.Test.YtecbnialcnplkaaS7
import Derived.Test.YtecbnialcnplkaaR1
import Derived.StillTailTactics
namespace Go.Proofs.Ytecbnialcnplkaa
open Go.RowKit
set_option linter.unusedVariables false
/-- The loop's invariant. -/
def WhyAt (w : World) (p x n : Nat) (fr : Int) (rs : Nat → Int) (la : Bool) (k s : Nat) (wr : World) : Prop := ∃ l st, AtW w (CStep p x n 1 l n fr rs la st) wr ∧ l.length ≤ k ∧ OkW l ∧ WInv n fr rs st s
theorem why_store {w wr : World} {p x n k s : Nat} {fr : Int} {rs : Nat → Int} {la : Bool} (h : WhyAt w p x n fr rs la k s wr) (hk : k ≤ 2999999999000) (th a b c v : Int) (hv : I64 v) :
    Calls Try.prog 20 #[.pointer (some ⟨p, 0, none⟩), .int .i64 th, .agg #[.int .i64 a, .int .i64 b, .int .i64 c], .int .i64 v] wr fun e w' => (∃ r, e = .returned (.int .i64 r)) ∧ WhyAt w p x n fr rs la (k + 1) s w' := by
  obtain ⟨l, st, h1, h2, h3, h4⟩ := h
  refine ((Lifts.left (BlkH.good _ _ _) (store_any p n 1 l (by omega) th a b c v)).at h1).mono ?_
  rintro e w' ⟨rfl, h⟩
  have := putL_len n 1 l th a b c v
  exact ⟨⟨_, rfl⟩, _, _, h, by omega, okW_put h3 th a b c v hv, h4⟩
theorem WhyAt.below {w wr : World} {p x n k s : Nat} {fr : Int} {rs : Nat → Int} {la : Bool} (h : WhyAt w p x n fr rs la k s wr) : Below w.heap.size w wr := by
  obtain ⟨l, st, h1, _⟩ := h
  exact h1.below
theorem WhyAt.calm {w wr w' : World} {p x n k s : Nat} {fr : Int} {rs : Nat → Int} {la : Bool} (h : WhyAt w p x n fr rs la k s wr) (hb : Below wr.heap.size wr w') : WhyAt w p x n fr rs la k s w' := by
  obtain ⟨l, st, h1, h2⟩ := h
  exact ⟨l, st, h1.calm (CStep.good _ _ _ _ _ _ _ _ _ _) hb, h2⟩
theorem WInv.rng {size : Nat} {fr : Int} {rs : Nat → Int} {s : CS} {n : Nat} (h : WInv size fr rs s n) (h4 : s.st < 4) (hf : 0 ≤ fr) : KRng s := by
  rcases h with ⟨h0, rfl⟩ | ⟨hz, h0, ⟨h1, h2, h3, hse⟩, hn⟩ | ⟨hz, h0, ⟨h1, h2, h3, hse⟩, m, hm, hw, hn⟩ | ⟨h0, hn⟩ | ⟨h0, hn⟩
  · exact .inl (.inl h0)
  · exact .inr (.inl ⟨h0, by omega, by omega⟩)
  · exact .inr (.inr ⟨h0, ⟨by omega, hse⟩, m, hm, hw⟩)
  · exact .inl (.inr h0)
  · omega
/-- Behind a step: the accesses l become l ++ l1; the answer lies in a box. -/
def WhyMid (w : World) (p x n : Nat) (fr : Int) (rs : Nat → Int) (la : Bool) (k s : Nat) (l : List Acc) (kd er : Int) (b : Bool) (w' : World) : Prop :=
  ∃ l1 st', AtW w (CStep p x n 1 (l ++ l1) n fr rs la st') w' ∧ l.length ≤ k ∧ OkW (l ++ l1) ∧
    ((l1 = [] ∧ kd = 0 ∧ er = 0 ∧ b = false ∧ WInv n fr rs st' s) ∨
     (∃ a bb c v, l1 = [ldAcc 1 a bb c v] ∧ b = true ∧ ((kd = 1 ∧ er = 0 ∧ WInv n fr rs st' s) ∨ ((kd = 2 ∨ kd = 3 ∨ kd = 4) ∧ WInv n fr rs st' (s + 1) ∧ (er ≠ 3 ∨ (er = 3 ∧ ∃ m : Nat, m < 8 ∧ a = 3 ∧ c = m ∧ bits .and .u64 (IntKind.u64.wrap v) (rs m) ≠ 0))))))
theorem why_step {w wr : World} {p x n k s : Nat} {fr : Int} {rs : Nat → Int} {la : Bool} (hn1 : 1 ≤ n) (hn2 : n ≤ 16) (hf : 0 ≤ fr) (hrs : Wds rs) {l : List Acc} {st : CS} (h1 : AtW w (CStep p x n 1 l n fr rs la st) wr) (h2 : l.length ≤ k) (h3 : OkW l) (h4 : WInv n fr rs st s) (hk : k ≤ 2999999999000) :
    Calls Try.prog 13 #[.pointer (some ⟨x, 0, none⟩), .pointer (some ⟨p, 0, none⟩), .int .i64 1] wr fun e w' => ∃ kd er b, e = .returned (ansV kd er 0 b) ∧ WhyMid w p x n fr rs la k s l kd er b w' := by
  by_cases hst : 4 ≤ st.st
  · refine ((chkStep_none p x n 1 l n fr rs la st 1 (.inr hst)).at (CStep.good _ _ _ _ _ _ _ _ _ _) h1).mono ?_
    rintro e w' ⟨rfl, h⟩
    exact ⟨0, 0, false, rfl, [], st, by rw [List.append_nil]; exact h, h2, by rw [List.append_nil]; exact h3, .inl ⟨rfl, rfl, rfl, rfl, h4⟩⟩
  · obtain ⟨⟨a, b, c⟩, ha⟩ : ∃ t, addrK n st = t := ⟨_, rfl⟩
    obtain ⟨v, hv⟩ : ∃ v, wordOf l a b c = v := ⟨_, rfl⟩
    obtain ⟨⟨st', kd, er⟩, hs⟩ : ∃ t, stepK n fr rs la st v = t := ⟨_, rfl⟩
    have hvI : I64 v := hv ▸ h3 a b c
    have hst' : st.st < 4 := by omega
    refine ((chkStep_go p x n 1 l (by omega) hn1 hn2 fr hf rs hrs la st 1 (h4.rng hst' hf) a b c ha v hv hvI st' kd er hs).at h1).mono ?_
    rintro e w' ⟨rfl, h⟩
    refine ⟨kd, er, true, rfl, [ldAcc 1 a b c v], st', h, h2, okW_ld h3 _ _ _ _ _, .inr ⟨a, b, c, v, rfl, rfl, ?_⟩⟩
    rcases h4.step hst' la v hvI.2 st' kd er hs with g | ⟨g1, g2, g3⟩
    · exact .inl g
    · refine .inr ⟨g1, g2, ?_⟩
      rcases g3 with g | g | ⟨g, m, hm, hk, hb⟩
      · exact .inl (by omega)
      · exact .inl (by omega)
      · rw [hk] at ha
        obtain ⟨rfl, _, rfl⟩ : 3 = a ∧ slotZ st.sk n = b ∧ (m : Int) = c := by simpa using ha
        exact .inr ⟨g, m, hm, rfl, rfl, hb⟩
/-- The words of a signature in a box, wherever. -/
theorem sig_rd {w : World} {b : Nat} {rs : Nat → Int} (h : w.heap[b]? = some (.cells #[.int .u64 (rs 0), .int .u64 (rs 1), .int .u64 (rs 2), .int .u64 (rs 3), .int .u64 (rs 4), .int .u64 (rs 5), .int .u64 (rs 6), .int .u64 (rs 7)] 42)) : ∀ m, m < 8 → w.cell? ⟨b, m, none⟩ = some (.int .u64 (rs m)) := by
  intro m hm
  match m, hm with
  | 0, _ => simp [World.cell?, h]
  | 1, _ => simp [World.cell?, h]
  | 2, _ => simp [World.cell?, h]
  | 3, _ => simp [World.cell?, h]
  | 4, _ => simp [World.cell?, h]
  | 5, _ => simp [World.cell?, h]
  | 6, _ => simp [World.cell?, h]
  | 7, _ => simp [World.cell?, h]
set_option maxHeartbeats 4000000 in
set_option maxRecDepth 100000 in
theorem checkWhy_law {w : World} (raw fr : Int) (rs : Nat → Int) (la : Bool) (a : Option Addr) (len cap : Nat) (q : Nat → Nat → Int) (hrs : Wds rs) (hg : Grid w a len 6 q) (hlc : len ≤ cap) (hcm : cap ≤ maxLen) (hq : ∀ i j, (Lit.int .i64 (q i j)).wf = true) (hsmall : len ≤ 2932031007402) :
    Calls Try.prog 6 #[.agg #[.int .i64 raw, .int .i64 fr, .int .u64 (rs 0), .int .u64 (rs 1), .int .u64 (rs 2), .int .u64 (rs 3), .int .u64 (rs 4), .int .u64 (rs 5), .int .u64 (rs 6), .int .u64 (rs 7), .bool la, .slice a len cap]] w fun e w' => e = .returned (.bool true) ∧ Below w.heap.size w w' := by
  have HG := Lib.hid hg
  have HQ := Lib.hid hq
  have HRS := Lib.hid hrs
  unfold maxLen at hcm
  have hp := pickZ_range raw 16 (by decide)
  obtain ⟨n, hn⟩ : ∃ n : Nat, 1 + pickZ raw 16 = n := ⟨(1 + pickZ raw 16).toNat, by omega⟩
  have hn1 : 1 ≤ n := by omega
  have hn2 : n ≤ 16 := by omega
  have HP := Lib.hid (pick_any raw 16 (by decide) (by decide))
  generalize pickZ raw 16 = pz at *
  obtain rfl : pz = (n : Int) - 1 := by omega
  have HB0 : Hid (∀ a b, Below w.heap.size w ((w.alloc a).alloc b)) := fun a b => ((Below.refl _ _).alloc (Nat.le_refl _) _).alloc (by simp) _
  have e0 : (1 : Int) + ((n : Int) - 1) = n := by omega
  clear hg hq hrs hp hn
  by_cases hf : fr < 0
  · go_enter Try.func6, Try.ntmps6
    go_wp2_with fail
    refine (shown8_any _).mono ?_; rintro e w1 ⟨rfl, hb⟩
    have B1 := Lib.hid ((HB0.out _ _).trans (hb.mono (by simp; omega)))
    clear hb
    go_wp2_with fail
    refine (HP.out w1).mono ?_; rintro e w' ⟨rfl, rfl⟩
    go_wp2_with fail
    go_ret
    exact ⟨rfl, B1.out⟩
  · have hf0 : 0 ≤ fr := by omega
    have HC := Lib.hid (chkNew_any n fr rs la (by omega) (by omega) hf0)
    have HM := Lib.hid (memNew_any 1 n (by decide) (by decide) hn1 (by omega))
    go_enter Try.func6, Try.ntmps6
    go_wp2_with fail
    refine (shown8_any _).mono ?_; rintro e w1 ⟨rfl, hb⟩
    have hbx : w1.heap[w.heap.size + 1]? = some (.cells #[.int .u64 (rs 0), .int .u64 (rs 1), .int .u64 (rs 2), .int .u64 (rs 3), .int .u64 (rs 4), .int .u64 (rs 5), .int .u64 (rs 6), .int .u64 (rs 7)] 42) := (hb.block _ (by simp)).trans (by
      have h : ∀ a b, ((w.alloc a).alloc b).heap[w.heap.size + 1]? = some b := fun a b => by
        have h := heapAlloc (w.alloc a) b
        rwa [World.size_alloc] at h
      exact h _ _)
    have HBX := Lib.hid hbx
    have B1 := Lib.hid ((HB0.out _ _).trans (hb.mono (by simp; omega)))
    obtain ⟨d0, d1, d2, d3, d4, d5, d6, d7, dz⟩ := blk_facts hbx
    clear hb hbx
    go_wp2_with fail
    refine (HP.out w1).mono ?_; rintro e w' ⟨rfl, rfl⟩
    go_wp2_with fail
    refine (HC.out w1).mono ?_; rintro e w2 ⟨x, rfl, h⟩
    have H2 := Lib.hid h
    clear h d0 d1 d2 d3 d4 d5 d6 d7 dz
    go_wp2_with fail
    refine (HM.out w2).mono ?_; rintro e w3 ⟨p, rfl, h⟩
    have H3 : Hid (WhyAt w1 p x n fr rs la 0 0 w3) := ⟨[], _, (H2.out.new (BlkH.good _ _ _) h).imp (fun _ h => h.comm), Nat.zero_le _, okW_nil, .inl ⟨rfl, rfl⟩⟩
    clear h H2 HM HC HP HB0 hf
    go_wp2_with fail
    go_loopw [14, 15] (fun s i wr => ∃ (k s' : Nat), k ≤ len ∧ i = .int .i64 k ∧ s = .int .i64 s' ∧ Hid (WhyAt w1 p x n fr rs la k s' wr)) (fun _ i _ => len - (intOf i).toNat)
    case atStart => exact ⟨0, 0, by omega, rfl, rfl, H3.out⟩
    case round =>
      obtain ⟨k, s, hk, rfl, rfl, HE⟩ := hrel
      clear H3
      by_cases hlt : k < len
      · obtain ⟨b, off, rfl, hbw, hcell⟩ := HG.out.resolve_left (by omega)
        have hbel := B1.out.trans (HE.out.below.mono B1.out.size)
        have c0 := (hbel.cell (p := ⟨b, off + k * 6 + 0, none⟩) hbw).trans (hcell k hlt 0 (by omega))
        simp only [Nat.add_zero] at c0
        by_cases h1 : q k 0 = 1
        · rw [h1] at c0
          have c2 := (hbel.cell (p := ⟨b, off + k * 6 + 2, none⟩) hbw).trans (hcell k hlt 2 (by omega))
          have c3 := (hbel.cell (p := ⟨b, off + k * 6 + 3, none⟩) hbw).trans (hcell k hlt 3 (by omega))
          have c4 := (hbel.cell (p := ⟨b, off + k * 6 + 4, none⟩) hbw).trans (hcell k hlt 4 (by omega))
          have c5 := (hbel.cell (p := ⟨b, off + k * 6 + 5, none⟩) hbw).trans (hcell k hlt 5 (by omega))
          have HX := Lib.hid (why_store (HE.out.calm ((Below.refl _ _).drew)) (by omega) (-1) (q k 2) (q k 3) (q k 4) (q k 5) (I64.of_wf (HQ.out k 5)))
          clear hcell hbel h1
          go_wp2_with fail
          go_still_tail 11, (by kernel_rfl)
          change wpList _ _ _ _ _ wr.drew
          go_wp2_with fail
          refine HX.out.mono ?_; rintro e w5 ⟨⟨z, rfl⟩, h⟩
          have H5 := Lib.hid h
          clear h HX c0 c2 c3 c4 c5
          go_wp2_with fail
          go_roundw
          case rel => exact ⟨k + 1, s, by omega, by go_num, rfl, H5.out⟩
          case measure => simp [intOf]; omega
        · have e1 : (q k 0 == 1) = false := by simp [h1]
          obtain ⟨l, st, g1, g2, g3, g4⟩ := HE.out
          have HCO := Lib.hid ((Looks.left (B := ChkH x n fr rs la st) (count_any p n 1 l)).at (CStep.good _ _ _ _ _ _ _ _ _ _) g1)
          have G := Lib.hid (And.intro g2 (And.intro g3 g4))
          clear hcell hbel h1 g1 g2 g3 g4 HE
          go_wp2_with fail
          refine HCO.out.mono ?_; rintro e w4 ⟨rfl, h⟩
          have HST := Lib.hid (why_step hn1 hn2 hf0 HRS.out h G.out.1 G.out.2.1 G.out.2.2 (by omega))
          clear h HCO c0 e1
          go_wp2_with fail
          refine HST.out.mono ?_; rintro e w5 ⟨kd, er, bo, rfl, h⟩
          obtain ⟨l1, st', m1, m2, m3, m4⟩ := h
          have M1 := Lib.hid (m1.box (CStep.good _ _ _ _ _ _ _ _ _ _) #[.int .i64 kd, .int .i64 er, .int .i64 0, .bool bo] 48)
          obtain ⟨FM, hM⟩ := M1.out.has.left.left
          have hle1 : l1.length ≤ 1 := by
            rcases m4 with ⟨rfl, _⟩ | ⟨_, _, _, _, rfl, _⟩ <;> simp
          have HLG := Lib.hid (log_from p n 1 (l ++ l1) l l1 rfl (by simp; omega) _ FM hM)
          have M4 := Lib.hid m4
          have M3 := Lib.hid (And.intro m2 m3)
          clear m1 m2 m3 m4 hM HST G
          unfold ansV
          go_wp2_with fail
          refine HLG.out.mono ?_; rintro e w6 ⟨v', rfl, ho, hb⟩
          obtain ⟨la', lc', rfl⟩ := ownAt_form ho
          have HO := Lib.hid ho
          have M6 := Lib.hid (M1.out.calm ((CStep.good _ _ _ _ _ _ _ _ _ _).star (BlkH.good _ _ _)) hb)
          obtain ⟨y0, y1, y2, y3, _⟩ := four_cells M6.out.has.right.blk
          clear ho hb HLG M1 hle1
          rcases M4.out with ⟨rfl, rfl, rfl, rfl, hw⟩ | ⟨ax, bx, cx, vx, rfl, rfl, hk3⟩
          · have HEND : Hid (WhyAt w1 p x n fr rs la (k + 1) s w6) := ⟨_, st', M6.out.fst, by have := M3.out.1; simp; omega, M3.out.2, hw⟩
            have hbd := hw.bound
            have hbd2 : decide ((2 : Int) + 9 * (n : Int) < s) = false := by simp; omega
            have el : (([] : List Acc).length : Int) = 0 := rfl
            clear hw M4 M6
            go_wp2_with fail
            go_roundw
            case rel => exact ⟨k + 1, s, by omega, by go_num, rfl, HEND.out⟩
            case measure => simp [intOf]; omega
          · have el : (([ldAcc 1 ax bx cx vx] : List Acc).length : Int) = 1 := rfl
            rcases hk3 with ⟨rfl, rfl, hw⟩ | ⟨hkd, hw, her⟩
            · have HEND : Hid (WhyAt w1 p x n fr rs la (k + 1) s w6) := ⟨_, st', M6.out.fst, by have := M3.out.1; simp; omega, M3.out.2, hw⟩
              have hbd := hw.bound
              have hbd2 : decide ((2 : Int) + 9 * (n : Int) < s) = false := by simp; omega
              clear hw M4 M6
              go_wp2_with fail
              go_roundw
              case rel => exact ⟨k + 1, s, by omega, by go_num, rfl, HEND.out⟩
              case measure => simp [intOf]; omega
            · have HEND : Hid (WhyAt w1 p x n fr rs la (k + 1) (s + 1) w6) := ⟨_, st', M6.out.fst, by have := M3.out.1; simp; omega, M3.out.2, hw⟩
              have hbd := hw.bound
              have hbd2 : decide ((2 : Int) + 9 * (n : Int) < (s : Int) + 1) = false := by simp; omega
              rcases her with her | ⟨rfl, m, hm, rfl, rfl, hbits⟩
              · have e3 : (er == 3) = false := by simp [her]
                clear hw M4 M6 her
                rcases hkd with rfl | rfl | rfl
                · go_wp2_with fail
                  go_roundw
                  case rel => exact ⟨k + 1, s + 1, by omega, by go_num, by go_num, HEND.out⟩
                  case measure => simp [intOf]; omega
                · go_wp2_with fail
                  go_roundw
                  case rel => exact ⟨k + 1, s + 1, by omega, by go_num, by go_num, HEND.out⟩
                  case measure => simp [intOf]; omega
                · go_wp2_with fail
                  go_roundw
                  case rel => exact ⟨k + 1, s + 1, by omega, by go_num, by go_num, HEND.out⟩
                  case measure => simp [intOf]; omega
              · obtain ⟨g, gc, hv, z0, z1, z2, z3, z4, z5, z6, z7⟩ := rmem_acc (m := 0) (x := ldAcc 1 3 bx m vx) HO.out rfl
                obtain ⟨rfl, rfl⟩ : la' = some ⟨g, 0, none⟩ ∧ lc' = gc := by simp at hv; exact ⟨hv.1, hv.2⟩
                simp only [ldAcc, Nat.zero_mul, Nat.zero_add] at z0 z1 z2 z3 z4 z5 z6 z7
                have hgl : g < w6.heap.size := (HO.out.lt g rfl).2
                have hsig := (HEND.out.below.block _ (heap_lt HBX.out)).trans HBX.out
                have hsl := heap_lt hsig
                have cm := sig_rd hsig m hm
                have hm0 : (0 : Int) ≤ m := by omega
                have hm8 : (m : Int) < 8 := by omega
                have hbit : (bits .and .u64 (IntKind.u64.wrap vx) (rs m) == 0) = false := by simp [hbits]
                clear hw M4 M6 hv hsig hbits z0 z1 z5 z7
                rcases hkd with rfl | rfl | rfl
                · go_wp2_with fail
                  go_quiet (fail)
                  go_wp2_with fail
                  go_roundw
                  case rel => exact ⟨k + 1, s + 1, by omega, by go_num, by go_num, HEND.out.calm (below_drewN ((Below.refl _ _).alloc (Nat.le_refl _) _) _)⟩
                  case measure => simp [intOf]; omega
                · go_wp2_with fail
                  go_quiet (fail)
                  go_wp2_with fail
                  go_roundw
                  case rel => exact ⟨k + 1, s + 1, by omega, by go_num, by go_num, HEND.out.calm (below_drewN ((Below.refl _ _).alloc (Nat.le_refl _) _) _)⟩
                  case measure => simp [intOf]; omega
                · go_wp2_with fail
                  go_quiet (fail)
                  go_wp2_with fail
                  go_roundw
                  case rel => exact ⟨k + 1, s + 1, by omega, by go_num, by go_num, HEND.out.calm (below_drewN ((Below.refl _ _).alloc (Nat.le_refl _) _) _)⟩
                  case measure => simp [intOf]; omega
      · obtain rfl : k = len := by omega
        go_wp2_with fail
        go_ret
        exact ⟨rfl, B1.out.trans (HE.out.below.mono B1.out.size)⟩
end Go.Proofs.Ytecbnialcnplkaa
