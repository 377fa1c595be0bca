/- Layer 7: the walk of BeginEnds. -/
import Derived.Test.YtkhppganhhmpeaaG0
import Derived.Test.YtkhppganhhmpeaaW7
import Derived.Test.YtkhppganhhmpeaaS7
import Derived.Test.YtkhppganhhmpeaaR1
import Derived.StillTailTactics
namespace Go.Proofs.Ytkhppganhhmpeaa
open Go.RowKit
set_option linter.unusedVariables false
/-- The loop's invariant. -/
def EndsAt (w : World) (p x n k s : Nat) (wr : World) : Prop := ∃ l st seen sk, AtW w (BStep p x n 1 l n st seen sk) wr ∧ l.length ≤ k ∧ OkW l ∧ EInv n s st seen sk
theorem EndsAt.below {w wr : World} {p x n k s : Nat} (h : EndsAt w p x n k s wr) : Below w.heap.size w wr := by
  obtain ⟨l, st, seen, sk, h1, _⟩ := h
  exact h1.below
theorem ends_store {w wr : World} {p x n k s : Nat} (h : EndsAt w p x n k s wr) (hk : k ≤ 2999999999000) (th a b c v : Int) (hv : I64 v) :
    Calls Try.prog 12 #[.pointer (some ⟨p, 0, none⟩), .int .i64 th, .agg #[.int .i64 a, .int .i64 b, .int .i64 c], .int .i64 v] wr fun e w' => (∃ r, e = .returned (.int .i64 r)) ∧ EndsAt w p x n (k + 1) s w' := by
  obtain ⟨l, st, seen, sk, h1, h2, h3, h4⟩ := h
  refine ((Lifts.left (BlkH.good _ _ _) (store_any p n 1 l (by omega) th a b c v)).at h1).mono ?_
  rintro e w' ⟨rfl, h⟩
  have := putL_len n 1 l th a b c v
  exact ⟨⟨_, rfl⟩, _, _, _, _, h, by omega, okW_put h3 th a b c v hv, h4⟩
/-- A step has been made: the machine goes on, or it is through. -/
def EndsStep (w : World) (p x n k s : Nat) (kd : Int) (w' : World) : Prop := (EndsAt w p x n (k + 1) (s + 1) w' ∧ kd = 2) ∨
  (kd = 3 ∧ s ≤ n ∧ ∃ l seen sk, AtW w (BStep p x n 1 l n 2 seen sk) w' ∧ 0 ≤ sk ∧ (0 ≤ seen → sk ≤ seen))
theorem ends_step {w wr : World} {p x n k s : Nat} (hn1 : 1 ≤ n) (hn2 : n ≤ 16) (h : EndsAt w p x n k s wr) (hk : k ≤ 2999999999000) (th : Int) :
    Calls Try.prog 13 #[.pointer (some ⟨x, 0, none⟩), .pointer (some ⟨p, 0, none⟩), .int .i64 th] wr fun e w' => ∃ kd, e = .returned (ansV kd 0 0 true) ∧ EndsStep w p x n k s kd w' := by
  obtain ⟨l, st, seen, sk, h1, h2, h3, h4⟩ := h
  obtain ⟨⟨a, b, c⟩, ha⟩ : ∃ t, addrB n st sk = t := ⟨_, rfl⟩
  obtain ⟨v, hv⟩ : ∃ v, wordOf l a b c = v := ⟨_, rfl⟩
  obtain ⟨⟨st', seen', sk', kd⟩, hs⟩ : ∃ t, stepB n st seen sk v = t := ⟨_, rfl⟩
  have hr := h4.rng
  refine ((begStep_go p x n 1 l (by omega) st seen sk th hn1 hn2 hr.1 a b c ha v hv st' seen' sk' kd hs).at h1).mono ?_
  rintro e w' ⟨rfl, h⟩
  refine ⟨kd, rfl, ?_⟩
  rcases h4.step hn1 v (hv ▸ h3 a b c) _ _ _ _ hs with ⟨g1, g2, g3⟩ | ⟨rfl, g2, g3, g4, g5⟩
  · exact .inl ⟨⟨_, _, _, _, h, by simp; omega, okW_ld h3 _ _ _ _ _, g1⟩, g2⟩
  · exact .inr ⟨g2, g5, _, _, _, h, g3, g4⟩
theorem ends_start {w wr : World} {p x n k s : Nat} (h : EndsAt w p x n k s wr) : Calls Try.prog 14 #[.pointer (some ⟨x, 0, none⟩)] wr fun e w' => e = .returned (.tuple #[.int .i64 0, .int .i64 0, .bool false]) ∧ EndsAt w p x n k s w' ∧ Below wr.heap.size wr w' := by
  obtain ⟨l, st, seen, sk, h1, h2, h3, h4⟩ := h
  have hr := h4.rng
  obtain ⟨F, hF⟩ := h1.has
  refine ((Looks.right (A := MemH p n 1 l) (begStart_no x n st seen sk (by omega))) wr F hF).mono ?_
  rintro e w' ⟨rfl, hb⟩
  exact ⟨rfl, ⟨l, st, seen, sk, AtW.calm (BStep.good _ _ _ _ _ _ _ _ _) h1 hb, h2, h3, h4⟩, hb⟩
theorem EndsAt.calm {w wr w' : World} {p x n k s : Nat} (h : EndsAt w p x n k s wr) (hb : Below wr.heap.size wr w') : EndsAt w p x n k s w' := by
  obtain ⟨l, st, seen, sk, h1, h2, h3, h4⟩ := h
  exact ⟨l, st, seen, sk, h1.calm (BStep.good _ _ _ _ _ _ _ _ _) hb, h2, h3, h4⟩
set_option maxHeartbeats 4000000 in
set_option maxRecDepth 100000 in
theorem beginEnds_law {w : World} (raw : Int) (wraw : (Lit.int .i64 raw).wf = true) (a : Option Addr) (len cap : Nat) (q : Nat → Nat → Int) (hg : Grid w a len 6 q) (hlc : len ≤ cap) (hcm : cap ≤ maxLen) (hq : ∀ i j, (Lit.int .i64 (q i j)).wf = true) (hsmall : len ≤ 2932031007402) :
    Calls Try.prog 3 #[.int .i64 raw, .slice a len cap] w fun e w' => e = .returned (.bool true) ∧ Below w.heap.size w w' := by
  have HG := Lib.hid hg
  have HQ := Lib.hid hq
  unfold maxLen at hcm
  have hp := pickZ_range raw 16 (by decide)
  obtain ⟨n, hn⟩ : ∃ n : Nat, 1 + pickZ raw 16 = n := ⟨(1 + pickZ raw 16).toNat, by omega⟩
  have hn1 : 1 ≤ n := by omega
  have hn2 : n ≤ 16 := by omega
  have HP := Lib.hid (pick_any raw 16 (by decide) (by decide))
  generalize pickZ raw 16 = pz at *
  obtain rfl : pz = (n : Int) - 1 := by omega
  clear wraw hg hq hp hn
  have HM := Lib.hid (memNew_any 1 n (by decide) (by decide) hn1 (by omega))
  have HB := Lib.hid (begNew_any n (by omega) (by omega))
  go_enter Try.func3, Try.ntmps3
  go_wp2_with fail
  refine (shown7_any w).mono ?_; rintro e w1 ⟨rfl, hb⟩
  have B1 := Lib.hid hb
  clear hb
  go_wp2_with fail
  refine (HP.out w1).mono ?_; rintro e w' ⟨rfl, rfl⟩
  go_wp2_with fail
  have e0 : (1 : Int) + ((n : Int) - 1) = n := by omega
  rw [e0]
  refine (HB.out w1).mono ?_; rintro e w2 ⟨x, rfl, h⟩
  have H2 := Lib.hid h
  clear h
  go_wp2_with fail
  refine (HM.out w2).mono ?_; rintro e w3 ⟨p, rfl, h⟩
  have H3 : Hid (EndsAt w p x n 0 0 w3) := ⟨[], 0, 0, 0, ((H2.out.new (BlkH.good _ _ _) h).up B1.out).imp (fun _ h => h.comm), Nat.zero_le _, okW_nil, .inl ⟨rfl, rfl⟩⟩
  clear h H2 HB HM HP B1
  go_wp2_with fail
  go_loopw [11, 12] (fun s i wr => ∃ (k s' : Nat), k ≤ len + s' ∧ s' ≤ n ∧ i = .int .i64 k ∧ s = .int .i64 s' ∧ Hid (EndsAt w p x n k s' wr)) (fun s i _ => (len - (intOf i).toNat) + (n + 1 - (intOf s).toNat))
  case atStart => exact ⟨0, 0, by omega, by omega, rfl, rfl, H3.out⟩
  case round =>
    obtain ⟨k, s, hk, hs, rfl, rfl, HE⟩ := hrel
    clear H3
    by_cases hlt : k < len
    · obtain ⟨b, off, rfl, hbw, hcell⟩ := HG.out.resolve_left (by omega)
      have hbel := HE.out.below
      have c0 := (hbel.cell (p := ⟨b, off + k * 6 + 0, none⟩) hbw).trans (hcell k hlt 0 (by omega))
      have c2 := (hbel.cell (p := ⟨b, off + k * 6 + 2, none⟩) hbw).trans (hcell k hlt 2 (by omega))
      have c3 := (hbel.cell (p := ⟨b, off + k * 6 + 3, none⟩) hbw).trans (hcell k hlt 3 (by omega))
      have c4 := (hbel.cell (p := ⟨b, off + k * 6 + 4, none⟩) hbw).trans (hcell k hlt 4 (by omega))
      have c5 := (hbel.cell (p := ⟨b, off + k * 6 + 5, none⟩) hbw).trans (hcell k hlt 5 (by omega))
      simp only [Nat.add_zero] at c0
      have HV := Lib.hid (I64.of_wf (HQ.out k 5))
      have hHX := ends_store (HE.out.calm ((Below.refl _ _).drew)) (by omega) (-1) (q k 2) (q k 3) (q k 4) (q k 5) HV.out
      have HX := Lib.hid hHX
      generalize q k 0 = x0 at *
      generalize q k 2 = x2 at *
      generalize q k 3 = x3 at *
      generalize q k 4 = x4 at *
      generalize q k 5 = x5 at *
      clear hcell hHX hbel
      by_cases h0 : x0 = 1
      · subst h0
        go_wp2_with fail
        go_still_tail 11, (by kernel_rfl)
        change wpList _ _ _ _ _ wr.drew
        go_wp2_with fail
        refine HX.out.mono ?_; rintro e w4 ⟨⟨r, rfl⟩, h⟩
        have H4 := Lib.hid h
        clear h c0 c2 c3 c4 c5 HX
        go_wp2_with fail
        go_roundw
        case rel => exact ⟨k + 1, s, by omega, by omega, by go_num, rfl, H4.out⟩
        case measure => simp [intOf]; omega
      · have e0 : (x0 == 1) = false := by simp [h0]
        clear HX c2 c3 c4 c5 h0
        have HST := Lib.hid (ends_step hn1 hn2 HE.out (by omega) 1)
        go_wp2_with fail
        refine HST.out.mono ?_; rintro e w4 ⟨kd, rfl, h⟩
        clear HST
        rcases h with ⟨h, rfl⟩ | ⟨rfl, hs5, l5, seen5, sk5, h, hp5, hq5⟩
        · have H4 : Hid (EndsAt w p x n (k + 1) (s + 1) (w4.alloc (.cells #[.int .i64 2, .int .i64 0, .int .i64 0, .bool true] 38))) := h.calm ((Below.refl _ _).alloc (Nat.le_refl _) _)
          clear h
          unfold ansV
          go_wp2_with fail
          refine (ends_start H4.out).mono ?_; rintro e w5 ⟨rfl, h, hb⟩
          have H5 := Lib.hid h
          obtain ⟨d0, d1, d2, d3, _⟩ := four_cells ((hb.block w4.heap.size (by simp)).trans (heapAlloc w4 _))
          clear h hb H4
          have hsn : s + 1 ≤ n := by
            obtain ⟨_, _, _, _, _, _, _, h4⟩ := H5.out
            exact h4.rng.2.2 hn1
          have d5 : decide ((n : Int) < (s : Int) + 1) = false := by simpa using (by omega : (s : Int) + 1 ≤ n)
          go_wp2_with fail
          go_roundw
          case rel => exact ⟨k + 1, s + 1, by omega, by omega, by go_num, by go_num, H5.out⟩
          case measure => simp [intOf]; omega
        · have H4 := Lib.hid (h.box (BStep.good _ _ _ _ _ _ _ _ _) #[.int .i64 3, .int .i64 0, .int .i64 0, .bool true] 38)
          clear h
          unfold ansV
          go_wp2_with fail
          refine ((Looks.left (Looks.right (A := MemH p n 1 l5) (begStart_yes x n seen5 sk5))).at ((BStep.good _ _ _ _ _ _ _ _ _).star (BlkH.good _ _ _)) H4.out).mono ?_
          rintro e w5 ⟨rfl, h⟩
          have H5 := Lib.hid h
          obtain ⟨d0, d1, d2, d3, _⟩ := four_cells h.has.right.blk
          clear h H4
          have HST := Lib.hid ((Looks.left (B := BlkH w4.heap.size #[.int .i64 3, .int .i64 0, .int .i64 0, .bool true] 38) (begStep_none p x n 1 l5 n 2 seen5 sk5 1 (.inr rfl))).at ((BStep.good _ _ _ _ _ _ _ _ _).star (BlkH.good _ _ _)) H5.out)
          by_cases hle : s + 1 ≤ n
          · have e1 : (s : Int) + 1 ≤ n := by omega
            have d5 : decide ((n : Int) < (s : Int) + 1) = false := by simpa using e1
            by_cases hsg : seen5 < sk5
            · have hs0 : decide (0 ≤ seen5) = false := by simp; omega
              go_wp2_with fail
              refine HST.out.mono ?_; rintro e w6 ⟨rfl, h⟩
              have H6 := Lib.hid h.below
              clear h
              unfold ansV
              go_wp2_with fail
              go_ret
              exact ⟨ret_bool (by simp), H6.out.alloc (H6.out.size) _⟩
            · have hs0 : decide (seen5 < sk5) = false := by simpa using hsg
              go_wp2_with fail
              refine HST.out.mono ?_; rintro e w6 ⟨rfl, h⟩
              have H6 := Lib.hid h.below
              clear h
              unfold ansV
              go_wp2_with fail
              go_ret
              exact ⟨ret_bool (by simp), H6.out.alloc (H6.out.size) _⟩
          · have e1 : ¬ (s : Int) + 1 ≤ n := by omega
            have d6 : decide ((s : Int) + 1 ≤ n) = false := by simpa using e1
            have d5 : (n : Int) < (s : Int) + 1 := by omega
            by_cases hsg : seen5 < sk5
            · have hs0 : decide (0 ≤ seen5) = false := by simp; omega
              go_wp2_with fail
              refine HST.out.mono ?_; rintro e w6 ⟨rfl, h⟩
              have H6 := Lib.hid h.below
              clear h
              unfold ansV
              go_wp2_with fail
              go_ret
              exact ⟨ret_bool (by simp), H6.out.alloc (H6.out.size) _⟩
            · have hs0 : decide (seen5 < sk5) = false := by simpa using hsg
              go_wp2_with fail
              refine HST.out.mono ?_; rintro e w6 ⟨rfl, h⟩
              have H6 := Lib.hid h.below
              clear h
              unfold ansV
              go_wp2_with fail
              go_ret
              exact ⟨ret_bool (by simp), H6.out.alloc (H6.out.size) _⟩
    · have hsn : s ≤ n := hs
      by_cases hs2 : True
      · clear hs2
        have HST := Lib.hid (ends_step hn1 hn2 HE.out (by omega) 1)
        go_wp2_with fail
        refine HST.out.mono ?_; rintro e w4 ⟨kd, rfl, h⟩
        clear HST
        rcases h with ⟨h, rfl⟩ | ⟨rfl, hs5, l5, seen5, sk5, h, hp5, hq5⟩
        · have H4 : Hid (EndsAt w p x n (k + 1) (s + 1) (w4.alloc (.cells #[.int .i64 2, .int .i64 0, .int .i64 0, .bool true] 38))) := h.calm ((Below.refl _ _).alloc (Nat.le_refl _) _)
          clear h
          unfold ansV
          go_wp2_with fail
          refine (ends_start H4.out).mono ?_; rintro e w5 ⟨rfl, h, hb⟩
          have H5 := Lib.hid h
          obtain ⟨d0, d1, d2, d3, _⟩ := four_cells ((hb.block w4.heap.size (by simp)).trans (heapAlloc w4 _))
          clear h hb H4
          have hsn : s + 1 ≤ n := by
            obtain ⟨_, _, _, _, _, _, _, h4⟩ := H5.out
            exact h4.rng.2.2 hn1
          have d5 : decide ((n : Int) < (s : Int) + 1) = false := by simpa using (by omega : (s : Int) + 1 ≤ n)
          go_wp2_with fail
          go_roundw
          case rel => exact ⟨k + 1, s + 1, by omega, by omega, by go_num, by go_num, H5.out⟩
          case measure => simp [intOf]; omega
        · have H4 := Lib.hid (h.box (BStep.good _ _ _ _ _ _ _ _ _) #[.int .i64 3, .int .i64 0, .int .i64 0, .bool true] 38)
          clear h
          unfold ansV
          go_wp2_with fail
          refine ((Looks.left (Looks.right (A := MemH p n 1 l5) (begStart_yes x n seen5 sk5))).at ((BStep.good _ _ _ _ _ _ _ _ _).star (BlkH.good _ _ _)) H4.out).mono ?_
          rintro e w5 ⟨rfl, h⟩
          have H5 := Lib.hid h
          obtain ⟨d0, d1, d2, d3, _⟩ := four_cells h.has.right.blk
          clear h H4
          have HST := Lib.hid ((Looks.left (B := BlkH w4.heap.size #[.int .i64 3, .int .i64 0, .int .i64 0, .bool true] 38) (begStep_none p x n 1 l5 n 2 seen5 sk5 1 (.inr rfl))).at ((BStep.good _ _ _ _ _ _ _ _ _).star (BlkH.good _ _ _)) H5.out)
          by_cases hle : s + 1 ≤ n
          · have e1 : (s : Int) + 1 ≤ n := by omega
            have d5 : decide ((n : Int) < (s : Int) + 1) = false := by simpa using e1
            by_cases hsg : seen5 < sk5
            · have hs0 : decide (0 ≤ seen5) = false := by simp; omega
              go_wp2_with fail
              refine HST.out.mono ?_; rintro e w6 ⟨rfl, h⟩
              have H6 := Lib.hid h.below
              clear h
              unfold ansV
              go_wp2_with fail
              go_ret
              exact ⟨ret_bool (by simp), H6.out.alloc (H6.out.size) _⟩
            · have hs0 : decide (seen5 < sk5) = false := by simpa using hsg
              go_wp2_with fail
              refine HST.out.mono ?_; rintro e w6 ⟨rfl, h⟩
              have H6 := Lib.hid h.below
              clear h
              unfold ansV
              go_wp2_with fail
              go_ret
              exact ⟨ret_bool (by simp), H6.out.alloc (H6.out.size) _⟩
          · have e1 : ¬ (s : Int) + 1 ≤ n := by omega
            have d6 : decide ((s : Int) + 1 ≤ n) = false := by simpa using e1
            have d5 : (n : Int) < (s : Int) + 1 := by omega
            by_cases hsg : seen5 < sk5
            · have hs0 : decide (0 ≤ seen5) = false := by simp; omega
              go_wp2_with fail
              refine HST.out.mono ?_; rintro e w6 ⟨rfl, h⟩
              have H6 := Lib.hid h.below
              clear h
              unfold ansV
              go_wp2_with fail
              go_ret
              exact ⟨ret_bool (by simp), H6.out.alloc (H6.out.size) _⟩
            · have hs0 : decide (seen5 < sk5) = false := by simpa using hsg
              go_wp2_with fail
              refine HST.out.mono ?_; rintro e w6 ⟨rfl, h⟩
              have H6 := Lib.hid h.below
              clear h
              unfold ansV
              go_wp2_with fail
              go_ret
              exact ⟨ret_bool (by simp), H6.out.alloc (H6.out.size) _⟩
      · exact absurd trivial hs2
end Go.Proofs.Ytkhppganhhmpeaa
