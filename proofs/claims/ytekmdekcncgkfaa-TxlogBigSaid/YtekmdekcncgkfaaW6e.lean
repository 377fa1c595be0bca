/- The walk of TxlogBig. -/
import Derived.Test.YtekmdekcncgkfaaS6b
import Derived.Test.YtekmdekcncgkfaaC6d
import Derived.Test.YtekmdekcncgkfaaR6
namespace Go.Proofs.Ytekmdekcncgkfaa
open Go.RowKit
set_option linter.unusedVariables false
theorem big_put {st : TS} {n : Nat} {f : Int} {k : Nat} (h : Filled st n f k) (hk : k < n) (hf : 0 ≤ f ∧ f ≤ 900) (hn : n ≤ 24) (v : Int) (l : Nat) (F : Nat → Prop) (w : World) (hL : LogObj w l st noS (ofS (cellsT st)) F) :
    Calls Try.prog 8 #[.pointer (some ⟨l, 0, none⟩), .int .i64 (f + k), .int .i64 v] w (LogPut w l F (putT st (f + k) v) noS (ofS (cellsT (putT st (f + k) v))) 0) := by
  have := logWrite_any st h.inv l F noS _ (ofS_wds _) w hL (f + k) v
  rw [wrote_put] at this
  have e : logE st (f + k) = 0 := by unfold logE; rw [(h.put hk hf hn v).1]; rfl
  rw [e] at this
  exact this
theorem big_more {st : TS} {n : Nat} {f : Int} (h : Filled st n f n) {c : Int} (hc : 0 ≤ c ∧ c < 1024) (hn : ¬ (f ≤ c ∧ c < f + n)) (v : Int) (l : Nat) (F : Nat → Prop) (w : World) (hL : LogObj w l st noS (ofS (cellsT st)) F) :
    Calls Try.prog 8 #[.pointer (some ⟨l, 0, none⟩), .int .i64 c, .int .i64 v] w (LogPut w l F st noS (ofS (cellsT st)) 5) := by
  have := logWrite_any st h.inv l F noS _ (ofS_wds _) w hL c v
  have hE := h.more hc hn
  rw [wrote_put, put_refused c v (by rw [hE]; decide)] at this
  have e : logE st c = 5 := by unfold logE; rw [hE]; rfl
  rw [e] at this
  exact this
theorem big_first {st : TS} {n : Nat} {f : Int} (h : Filled st n f n) (h1 : 1 ≤ n) (hf : 0 ≤ f ∧ f ≤ 900) (v : Int) (l : Nat) (F : Nat → Prop) (w : World) (hL : LogObj w l st noS (ofS (cellsT st)) F) :
    Calls Try.prog 8 #[.pointer (some ⟨l, 0, none⟩), .int .i64 f, .int .i64 v] w (LogPut w l F (putT st f v) noS (ofS (cellsT st)) 0) := by
  have := logWrite_any st h.inv l F noS _ (ofS_wds _) w hL f v
  obtain ⟨hE, hF, _⟩ := h.first h1 hf v
  rw [wrote_put] at this
  have e : logE st f = 0 := by unfold logE; rw [hE]; rfl
  rw [e, hF.cells, ← h.cells] at this
  exact this
/-- The invariant of the loop. -/
def BigSt (w : World) (t n : Nat) (f : Int) (k : Nat) (wr : World) : Prop := ∃ st F, Filled st n f k ∧ LogObj wr t st noS (ofS (cellsT st)) F ∧ Below w.heap.size w wr ∧ ∀ b, F b → w.heap.size ≤ b
set_option maxRecDepth 100000 in
set_option maxHeartbeats 8000000 in
theorem txlogBig_law {w : World} (m f c v : Int) (wm : (Lit.int .i64 m).wf = true) (wf : (Lit.int .i64 f).wf = true) (wc : (Lit.int .i64 c).wf = true) (wv : (Lit.int .i64 v).wf = true) :
    Calls Try.prog 4 #[.agg #[.int .i64 m, .int .i64 f, .int .i64 c, .int .i64 v]] w fun e w' => e = .returned (.bool true) ∧ Below w.heap.size w w' := by
  have heq := run_sig_eq
  have H0 : Hid (Below w.heap.size w (w.alloc (.cells #[.int .i64 m, .int .i64 f, .int .i64 c, .int .i64 v] 36))) := (Below.refl _ _).alloc (Nat.le_refl _) _
  clear wm wf wc wv
  by_cases hm : m < 1 ∨ 24 < m
  · have HM := Lib.hid hm
    rcases hm with hm | hm
    · go_enter Try.func4, Try.ntmps4
      go_wp2_with fail
      refine (logNew_bad m HM.out _).mono ?_; rintro e w1 ⟨rfl, rfl⟩
      go_wp2_with fail
      go_ret
      exact ⟨rfl, H0.out⟩
    · have hm0 : ¬ m < 1 := by omega
      have hmd : decide (m < 1) = false := by simpa using hm0
      go_enter Try.func4, Try.ntmps4
      go_wp2_with fail
      refine (logNew_bad m HM.out _).mono ?_; rintro e w1 ⟨rfl, rfl⟩
      go_wp2_with fail
      go_ret
      exact ⟨by simp, H0.out⟩
  · obtain ⟨n, rfl⟩ : ∃ n : Nat, m = n := ⟨m.toNat, by omega⟩
    have h1 : 1 ≤ n := by omega
    have h2 : n ≤ 24 := by omega
    clear hm
    by_cases hf0 : f < 0
    · go_enter Try.func4, Try.ntmps4
      go_wp2_with fail
      refine (logNew_any n h1 h2 _).mono ?_; rintro e w1 ⟨t, F, rfl, hT, hb1, hf1⟩
      have H1 : Hid (Below w.heap.size w w1) := H0.out.trans (hb1.mono (by simp))
      clear hT hb1 hf1
      go_wp2_with fail
      go_ret
      exact ⟨rfl, H1.out⟩
    by_cases hf9 : 900 < f
    · go_enter Try.func4, Try.ntmps4
      go_wp2_with fail
      refine (logNew_any n h1 h2 _).mono ?_; rintro e w1 ⟨t, F, rfl, hT, hb1, hf1⟩
      have H1 : Hid (Below w.heap.size w w1) := H0.out.trans (hb1.mono (by simp))
      clear hT hb1 hf1
      go_wp2_with fail
      go_ret
      exact ⟨rfl, H1.out⟩
    have HF : Hid (0 ≤ f ∧ f ≤ 900) := ⟨by omega, by omega⟩
    go_enter Try.func4, Try.ntmps4
    go_wp2_with fail
    refine (logNew_any n h1 h2 _).mono ?_; rintro e w1 ⟨t, F, rfl, hT, hb1, hf1⟩
    have H1 : Hid (BigSt w t n f 0 w1) := ⟨newT n, F, filled_new n h1 h2 f, hT, H0.out.trans (hb1.mono (by simp)), fun b hb => by have := hf1 b hb; simp at this; omega⟩
    clear hT hb1 hf1
    go_wp2_with fail
    go_loopw [8, 9] (fun _ i wr => ∃ k : Nat, k ≤ n ∧ i = .int .i64 k ∧ Hid (BigSt w t n f k wr)) (fun _ i _ => n - (intOf i).toNat)
    case atStart => exact ⟨0, by omega, rfl, H1.out⟩
    case round =>
      obtain ⟨k, hk, rfl, HP⟩ := hrel
      obtain ⟨st, F, hfi, hL, hbe, hfe⟩ := HP.out
      have HFI := Lib.hid hfi
      have HL := Lib.hid hL
      have HBE := Lib.hid (And.intro hbe hfe)
      clear hfi hL hbe hfe
      by_cases hlt : k < n
      · go_wp2_with fail
        refine (big_put HFI.out hlt HF.out h2 _ t F _ HL.out).mono ?_
        rintro e w3 ⟨rfl, F', hL, hch, hf'⟩
        have H3 : Hid (BigSt w t n f (k + 1) w3) := by
          have z := HBE.out.1.size
          refine ⟨_, F', (HFI.out.put hlt HF.out h2 _).2, hL, HBE.out.1.trans (hch.below HBE.out.2 z), fun b hb => ?_⟩
          rcases hf' b hb with h | h
          · exact HBE.out.2 b h
          · omega
        clear hL hch hf'
        go_wp2_with fail
        go_roundw
        case rel => exact ⟨k + 1, by omega, by go_num, H3.out⟩
        case measure => simp [intOf]; omega
      · obtain rfl : k = n := by omega
        clear HP H1
        obtain ⟨wo, rfl⟩ : ∃ wo : World, wo = wr := ⟨_, rfl⟩
        obtain ⟨s, HS⟩ : ∃ s, Hid (ofS (cellsT st) = s) := ⟨_, rfl⟩
        rw [HS.out] at HL
        go_wp2_with fail
        refine (logSig_any st t F _ _ _ HL.out).mono ?_
        rintro e w3 ⟨rfl, hb⟩
        have H3 := Lib.hid hb
        clear hb
        by_cases hA : c < 0
        · go_wp2_with fail
          go_ret
          exact ⟨rfl, (HBE.out.1.trans (H3.out.mono HBE.out.1.size)).alloc (Nat.le_trans HBE.out.1.size H3.out.size) _⟩
        by_cases hA2 : 1023 < c
        · go_wp2_with fail
          go_ret
          exact ⟨rfl, (HBE.out.1.trans (H3.out.mono HBE.out.1.size)).alloc (Nat.le_trans HBE.out.1.size H3.out.size) _⟩
        by_cases hA3 : f ≤ c ∧ c < f + k
        · obtain ⟨hA3, hA4⟩ := hA3
          go_wp2_with fail
          go_ret
          exact ⟨rfl, (HBE.out.1.trans (H3.out.mono HBE.out.1.size)).alloc (Nat.le_trans HBE.out.1.size H3.out.size) _⟩
        have HA3 := Lib.hid hA3
        have HC : Hid (0 ≤ c ∧ c < 1024) := ⟨by omega, by omega⟩
        have hgoal : c < f ∨ (f ≤ c ∧ ¬ c < f + k) := by omega
        clear hA3
        rcases hgoal with hA4 | ⟨hA4, hA5⟩
        all_goals
          go_wp2_with fail
          obtain ⟨wa, hwa⟩ : ∃ wa, wa = w3.alloc (.cells #[.int .u64 (s 0), .int .u64 (s 1), .int .u64 (s 2), .int .u64 (s 3), .int .u64 (s 4), .int .u64 (s 5), .int .u64 (s 6), .int .u64 (s 7)] 30) := ⟨_, rfl⟩
          have hga : wa.heap[w3.heap.size]? = some (.cells #[.int .u64 (s 0), .int .u64 (s 1), .int .u64 (s 2), .int .u64 (s 3), .int .u64 (s 4), .int .u64 (s 5), .int .u64 (s 6), .int .u64 (s 7)] 30) := by rw [hwa]; exact heapAlloc _ _
          have HGA := Lib.hid hga
          have HNA : Hid (w3.heap.size < wa.heap.size) := by show _ < _; rw [hwa]; simp
          have HA : Hid (Below wo.heap.size wo wa) := by show Below _ _ _; rw [hwa]; exact H3.out.alloc H3.out.size _
          rw [← hwa]
          clear hwa hga
          have HLA : Hid (LogObj wa t st noS (ofS (cellsT st)) F) := by show LogObj _ _ _ _ _ _; rw [HS.out]; exact HL.out.calm HA.out
          refine (big_more HFI.out HC.out HA3.out v t F wa HLA.out).mono ?_
          rintro e w4 ⟨rfl, F4, hL4, hch4, hf4⟩
          have H4 := Lib.hid (And.intro hL4 (And.intro hch4 hf4))
          clear hL4 hch4 hf4
          go_wp2_with fail
          refine (big_first HFI.out h1 HF.out v t F4 w4 H4.out.1).mono ?_
          rw [HS.out]
          rintro e w5 ⟨rfl, F5, hL5, hch5, hf5⟩
          have HF5 : Hid (Filled (putT st f v) k f k) := (HFI.out.first h1 HF.out v).2.1
          have HV5 : Hid (getV (putT st f v) f = v) := (HFI.out.first h1 HF.out v).2.2
          generalize putT st f v = st2 at *
          have HG5 : Hid (w5.heap[w3.heap.size]? = some (.cells #[.int .u64 (s 0), .int .u64 (s 1), .int .u64 (s 2), .int .u64 (s 3), .int .u64 (s 4), .int .u64 (s 5), .int .u64 (s 6), .int .u64 (s 7)] 30) ∧ LogObj w5 t st2 noS s F5 ∧ Below w.heap.size w w5 ∧ w3.heap.size < w5.heap.size) := by
            have hz1 := HBE.out.1.size
            have hz3 := H3.out.size
            have hza := HA.out.size
            have hz4 := H4.out.2.1.size
            have hz5 := hch5.size
            have hna := HNA.out
            have hnF : ¬ F w3.heap.size := fun h => by have := HL.out.lt h; omega
            have hnF4 : ¬ F4 w3.heap.size := fun h => (H4.out.2.2 _ h).elim hnF (fun h => by omega)
            refine ⟨(hch5.block _ (by omega) hnF4).trans ((H4.out.2.1.block _ hna hnF).trans HGA.out), hL5, ?_, by omega⟩
            refine ((HBE.out.1.trans (HA.out.mono hz1)).trans (H4.out.2.1.below HBE.out.2 (by omega))).trans (hch5.below (fun b hb => ?_) (by omega))
            rcases H4.out.2.2 b hb with h | h
            · exact HBE.out.2 b h
            · omega
          clear hL5 hch5 hf5 H4 HA HGA HLA
          go_wp2_with fail
          have HB1 : Hid (getB st2 c = false) := by
            show _ = _
            cases hb : getB st2 c with
            | false => rfl
            | true => exact absurd ((HF5.out.has c).1 hb) HA3.out
          refine (logOwn_any st2 HF5.out.inv t F5 _ _ _ HG5.out.2.1 c).mono ?_
          rw [HB1.out]
          generalize getV st2 c = x
          rintro e w6 ⟨rfl, hb6⟩
          have H6 := Lib.hid hb6
          clear hb6
          go_wp2_with fail
          have HB2 : Hid (getB st2 f = true) := (HF5.out.has f).2 (by omega)
          refine (logOwn_any st2 HF5.out.inv t F5 _ _ _ (HG5.out.2.1.calm H6.out) f).mono ?_
          rw [HB2.out, HV5.out]
          rintro e w7 ⟨rfl, hb7⟩
          have H7 : Hid (Below w5.heap.size w5 w7) := H6.out.trans (hb7.mono H6.out.size)
          clear hb7 H6
          go_wp2_with fail
          refine (logWrites_any st2 HF5.out.inv t F5 _ _ _ (HG5.out.2.1.calm H7.out)).mono ?_
          rintro e w8 ⟨v1, rfl, ho, hb8⟩
          rw [HF5.out.len] at ho
          obtain ⟨a1, c1, rfl⟩ := ownAt_form ho
          have H8 : Hid (Below w5.heap.size w5 w8) := H7.out.trans (hb8.mono H7.out.size)
          clear hb8 H7 ho
          go_wp2_with fail
          refine (logSig_any st2 t F5 _ _ _ (HG5.out.2.1.calm H8.out)).mono ?_
          rintro e w9 ⟨rfl, hb9⟩
          have H9 : Hid (Below w5.heap.size w5 w9) := H8.out.trans (hb9.mono H8.out.size)
          obtain ⟨d0, d1, d2, d3, d4, d5, d6, d7, _⟩ := blk_facts (heapAlloc_old ((H9.out.block _ HG5.out.2.2.2).trans HG5.out.1) (.cells #[.int .u64 (s 0), .int .u64 (s 1), .int .u64 (s 2), .int .u64 (s 3), .int .u64 (s 4), .int .u64 (s 5), .int .u64 (s 6), .int .u64 (s 7)] 30))
          clear hb9 H8
          go_wp2_with fail
          go_ret
          refine ⟨ret_bool (by simp), ?_⟩
          have z5 := HG5.out.2.2.1.size
          have z9 := H9.out.size
          exact (HG5.out.2.2.1.trans (H9.out.mono z5)).alloc (by omega) _
end Go.Proofs.Ytekmdekcncgkfaa
