/- Layer 6: a step, done by both. -/
import Derived.Test.YtekmdekcncgkfaaC6d
import Derived.Test.YtekmdekcncgkfaaC5m
namespace Go.Proofs.Ytekmdekcncgkfaa
open Go.RowKit
set_option linter.unusedVariables false
/-- What a step makes of a log. -/
noncomputable def stepL (st : TS) (k c v : Int) : TS := if k = 0 then putT st c v else if k = 1 ∨ k = 2 ∨ k = 3 ∨ k = 4 then st else newT st.most
def stepR (told : List Int) (k c : Int) : List Int := if k = 2 then tellL told c else if k = 0 ∨ k = 1 ∨ k = 3 ∨ k = 4 then told else []
theorem stepL_inv {st : TS} (hI : Inv st) (k c v : Int) : Inv (stepL st k c v) := by
  unfold stepL
  split
  · exact putT_inv hI c v
  · split
    · exact hI
    · exact newT_inv _ hI.m1 hI.m2
theorem toldOk_nil : ToldOk [] := ⟨List.nodup_nil, fun _ h => by cases h⟩
theorem stepR_ok {told : List Int} (h : ToldOk told) (k c : Int) : ToldOk (stepR told k c) := by
  unfold stepR
  split
  · exact tellL_ok h c
  · split
    · exact h
    · exact toldOk_nil
/-- Both logs at work: each as st and told say, in blocks of their own. -/
def LBoth (w : World) (t r : Nat) (st : TS) (told : List Int) (F G : Nat → Prop) : Prop := LogObj w t st (ofS told) (ofS (cellsT st)) F ∧ RLogObj w r st told G ∧ ∀ b, F b → ¬ G b
/-- What one call has made of both. -/
def LBothStep (w : World) (t r : Nat) (F G : Nat → Prop) (st' : TS) (told' : List Int) (w' : World) : Prop :=
  ∃ F' G', LBoth w' t r st' told' F' G' ∧ Chg (fun b => F b ∨ G b) w w' ∧ (∀ b, F' b → F b ∨ w.heap.size ≤ b) ∧ ∀ b, G' b → G b ∨ w.heap.size ≤ b
theorem LBoth.calm {w w' : World} {t r : Nat} {st : TS} {told : List Int} {F G : Nat → Prop} (h : LBoth w t r st told F G) (hb : Below w.heap.size w w') : LBoth w' t r st told F G := ⟨h.1.calm hb, h.2.1.calm hb, h.2.2⟩
theorem LBoth.refl {w w' : World} {t r : Nat} {st : TS} {told : List Int} {F G : Nat → Prop} (h : LBoth w t r st told F G) (hb : Below w.heap.size w w') : LBothStep w t r F G st told w' :=
  ⟨F, G, h.calm hb, Chg.calm _ hb, fun _ h => .inl h, fun _ h => .inl h⟩
/-- The program's log has changed, then the reference's. -/
theorem lboth_step {w w0 w1 w2 : World} {t r : Nat} {st st' : TS} {told told' : List Int} {F G F' G' : Nat → Prop} (h : LBoth w t r st told F G) (h0 : Below w.heap.size w w0) (hT : LogObj w1 t st' (ofS told') (ofS (cellsT st')) F') (hc1 : Chg F w0 w1) (hf1 : ∀ b, F' b → F b ∨ w0.heap.size ≤ b)
    (hR : RLogObj w2 r st' told' G') (hc2 : Chg G w1 w2) (hf2 : ∀ b, G' b → G b ∨ w1.heap.size ≤ b) : LBothStep w t r F G st' told' w2 := by
  have z0 := h0.size
  have z1 := hc1.size
  have z2 := hc2.size
  have hFG' : ∀ b, F' b → ¬ G b := by
    intro b hb hg
    rcases hf1 b hb with hF | hn
    · exact h.2.2 b hF hg
    · have := h.2.1.lt hg; omega
  refine ⟨F', G', ⟨hT.chg hc2 hFG', hR, fun b hb hg => ?_⟩, ?_, fun b hb => ?_, fun b hb => ?_⟩
  · rcases hf2 b hg with hG | hn
    · exact hFG' b hb hG
    · have := hT.lt hb; omega
  · exact ((Chg.calm (fun b => F b ∨ G b) h0).trans hc1 (fun _ h => h) (fun _ _ h => .inl h)).trans hc2 (fun _ h => h) (fun _ _ h => .inr h)
  · exact (hf1 b hb).imp id (fun h => by omega)
  · exact (hf2 b hb).imp id (fun h => by omega)
theorem RLogObj.after {w w0 w1 : World} {t r : Nat} {st : TS} {told : List Int} {F G : Nat → Prop} (h : LBoth w t r st told F G) (h0 : Below w.heap.size w w0) (hc1 : Chg F w0 w1) : RLogObj w1 r st told G :=
  (h.2.1.calm h0).chg hc1 (fun b hb hF => h.2.2 b hF hb)
/-- A step has been done by both, alike. -/
def LOne (w : World) (t r : Nat) (F G : Nat → Prop) (st' : TS) (told' : List Int) (e : Ending) (w' : World) : Prop := e = .returned (.bool true) ∧ LBothStep w t r F G st' told' w'
set_option maxHeartbeats 1000000 in
theorem lone_put (st : TS) (told : List Int) (hI : Inv st) (t r : Nat) (F G : Nat → Prop) (w : World) (h : LBoth w t r st told F G) (c v : Int) :
    Calls Try.prog 17 #[.pointer (some ⟨t, 0, none⟩), .pointer (some ⟨r, 0, none⟩), .agg #[.int .i64 0, .int .i64 c, .int .i64 v]] w (LOne w t r F G (putT st c v) told) := by
  have HB := Lib.hid h
  have HI := Lib.hid hI
  have H0 : Hid (Below w.heap.size w (w.alloc (.cells #[.int .i64 0, .int .i64 c, .int .i64 v] 46))) := (Below.refl _ _).alloc (Nat.le_refl _) _
  have HC := Lib.hid (logWrite_any st hI t F (ofS told) (ofS (cellsT st)) (ofS_wds _) _ (h.1.calm H0.out) c v)
  rw [wrote_put] at HC
  obtain ⟨x, HX⟩ : ∃ x, Hid (logE st c = x) := ⟨_, rfl⟩
  obtain ⟨st', HS⟩ : ∃ s, Hid (putT st c v = s) := ⟨_, rfl⟩
  rw [HS.out] at HC ⊢
  rw [HX.out] at HC
  clear h hI
  go_enter Try.func17, Try.ntmps17
  go_wp2_with fail
  refine HC.out.mono ?_
  rintro e w1 ⟨rfl, F', hT, hc1, hf1⟩
  have hbx : w1.heap[w.heap.size]? = some (.cells #[.int .i64 0, .int .i64 c, .int .i64 v] 46) := (hc1.block _ (by simp) (fun hF => by have := HB.out.1.lt hF; omega)).trans (heapAlloc w _)
  obtain ⟨b0, b1, b2⟩ := box3 hbx
  have H1 := Lib.hid (And.intro hT (And.intro hc1 hf1))
  clear hT hc1 hf1 hbx HC
  go_wp2_with fail
  refine (rlogWrite_any st HI.out r G told _ (RLogObj.after HB.out H0.out H1.out.2.1) c v).mono ?_
  rw [HX.out, HS.out]
  rintro e w2 ⟨rfl, G', hR, hc2, hf2⟩
  have H2 := Lib.hid (lboth_step HB.out H0.out H1.out.1 H1.out.2.1 H1.out.2.2 hR hc2 hf2)
  clear hR hc2 hf2 b0 b1 b2
  go_wp2_with fail
  go_ret
  exact ⟨ret_bool (by simp), H2.out⟩
set_option maxHeartbeats 1000000 in
theorem lone_own (st : TS) (told : List Int) (hI : Inv st) (t r : Nat) (F G : Nat → Prop) (w : World) (h : LBoth w t r st told F G) (c v : Int) :
    Calls Try.prog 17 #[.pointer (some ⟨t, 0, none⟩), .pointer (some ⟨r, 0, none⟩), .agg #[.int .i64 1, .int .i64 c, .int .i64 v]] w (LOne w t r F G st told) := by
  have HB := Lib.hid h
  have HI := Lib.hid hI
  have H0 : Hid (Below w.heap.size w (w.alloc (.cells #[.int .i64 1, .int .i64 c, .int .i64 v] 46))) := (Below.refl _ _).alloc (Nat.le_refl _) _
  obtain ⟨x, HX⟩ : ∃ x, Hid (getV st c = x) := ⟨_, rfl⟩
  obtain ⟨y, HY⟩ : ∃ x, Hid (getB st c = x) := ⟨_, rfl⟩
  clear h hI
  go_enter Try.func17, Try.ntmps17
  go_wp2_with fail
  refine (logOwn_any st HI.out t F _ _ _ (HB.out.1.calm H0.out) c).mono ?_
  rw [HX.out, HY.out]
  rintro e w1 ⟨rfl, hb⟩
  have hbx : w1.heap[w.heap.size]? = some (.cells #[.int .i64 1, .int .i64 c, .int .i64 v] 46) := (hb.block _ (by simp)).trans (heapAlloc w _)
  obtain ⟨b0, b1, b2⟩ := box3 hbx
  have H1 : Hid (Below w.heap.size w w1) := H0.out.trans (hb.mono (by simp))
  clear hb hbx
  go_wp2_with fail
  refine (rlogOwn_any st r G told _ (HB.out.2.1.calm H1.out) c).mono ?_
  rw [HX.out, HY.out]
  rintro e w2 ⟨rfl, rfl⟩
  clear b0 b1 b2
  go_wp2_with fail
  go_ret
  exact ⟨ret_bool (by simp), HB.out.refl H1.out⟩
set_option maxHeartbeats 1000000 in
theorem lone_read (st : TS) (told : List Int) (hto : ToldOk told) (t r : Nat) (F G : Nat → Prop) (w : World) (h : LBoth w t r st told F G) (c v : Int) :
    Calls Try.prog 17 #[.pointer (some ⟨t, 0, none⟩), .pointer (some ⟨r, 0, none⟩), .agg #[.int .i64 2, .int .i64 c, .int .i64 v]] w (LOne w t r F G st (tellL told c)) := by
  have HB := Lib.hid h
  have HL := Lib.hid (told_len hto)
  have H0 : Hid (Below w.heap.size w (w.alloc (.cells #[.int .i64 2, .int .i64 c, .int .i64 v] 46))) := (Below.refl _ _).alloc (Nat.le_refl _) _
  have HC : Hid (Calls Try.prog 10 #[.pointer (some ⟨t, 0, none⟩), .int .i64 c] (w.alloc (.cells #[.int .i64 2, .int .i64 c, .int .i64 v] 46)) (LogRead (w.alloc (.cells #[.int .i64 2, .int .i64 c, .int .i64 v] 46)) t F st (ofS (tellL told c)) (ofS (cellsT st)))) := by
    by_cases hc : 0 ≤ c ∧ c < 1024
    · rw [← tellL_reads told c hc]
      exact logRead_in st t F _ _ (ofS_wds _) _ (h.1.calm H0.out) c hc
    · rw [tellL_out told c hc]
      exact logRead_out st t F _ _ _ (h.1.calm H0.out) c hc
  clear h hto
  go_enter Try.func17, Try.ntmps17
  go_wp2_with fail
  refine HC.out.mono ?_
  rintro e w1 ⟨rfl, F', hT, hc1, hf1⟩
  have hbx : w1.heap[w.heap.size]? = some (.cells #[.int .i64 2, .int .i64 c, .int .i64 v] 46) := (hc1.block _ (by simp) (fun hF => by have := HB.out.1.lt hF; omega)).trans (heapAlloc w _)
  obtain ⟨b0, b1, b2⟩ := box3 hbx
  have H1 := Lib.hid (And.intro hT (And.intro hc1 hf1))
  clear hT hc1 hf1 hbx HC
  go_wp2_with fail
  refine (rlogRead_any st r G told HL.out _ (RLogObj.after HB.out H0.out H1.out.2.1) c).mono ?_
  rintro e w2 ⟨rfl, G', hR, hc2, hf2⟩
  have H2 := Lib.hid (lboth_step HB.out H0.out H1.out.1 H1.out.2.1 H1.out.2.2 hR hc2 hf2)
  clear hR hc2 hf2 b0 b1 b2
  go_wp2_with fail
  go_ret
  exact ⟨rfl, H2.out⟩
set_option maxHeartbeats 4000000 in
theorem lone_sigs (st : TS) (told : List Int) (hI : Inv st) (hto : ToldOk told) (t r : Nat) (F G : Nat → Prop) (w : World) (h : LBoth w t r st told F G) (c v : Int) :
    Calls Try.prog 17 #[.pointer (some ⟨t, 0, none⟩), .pointer (some ⟨r, 0, none⟩), .agg #[.int .i64 3, .int .i64 c, .int .i64 v]] w (LOne w t r F G st told) := by
  have heq := run_sig_eq
  have HB := Lib.hid h
  have HI := Lib.hid hI
  have HL := Lib.hid (told_len hto)
  have H0 : Hid (Below w.heap.size w (w.alloc (.cells #[.int .i64 3, .int .i64 c, .int .i64 v] 46))) := (Below.refl _ _).alloc (Nat.le_refl _) _
  obtain ⟨s1, HS1⟩ : ∃ x, Hid (ofS told = x) := ⟨_, rfl⟩
  obtain ⟨s2, HS2⟩ : ∃ x, Hid (ofS (cellsT st) = x) := ⟨_, rfl⟩
  clear h hI hto
  go_enter Try.func17, Try.ntmps17
  go_wp2_with fail
  refine (logReads_any st t F _ _ _ (HB.out.1.calm H0.out)).mono ?_
  rw [HS1.out]
  rintro e w1 ⟨rfl, hb⟩
  have H1 : Hid (Below w.heap.size w w1) := H0.out.trans (hb.mono (by simp))
  clear hb
  go_wp2_with fail
  obtain ⟨wa, hwa⟩ : ∃ wa, wa = w1.alloc (.cells #[.int .u64 (s1 0), .int .u64 (s1 1), .int .u64 (s1 2), .int .u64 (s1 3), .int .u64 (s1 4), .int .u64 (s1 5), .int .u64 (s1 6), .int .u64 (s1 7)] 30) := ⟨_, rfl⟩
  have hga : wa.heap[w1.heap.size]? = some (.cells #[.int .u64 (s1 0), .int .u64 (s1 1), .int .u64 (s1 2), .int .u64 (s1 3), .int .u64 (s1 4), .int .u64 (s1 5), .int .u64 (s1 6), .int .u64 (s1 7)] 30) := by rw [hwa]; exact heapAlloc _ _
  have hna : w1.heap.size < wa.heap.size := by rw [hwa]; simp
  have HA : Hid (Below w.heap.size w wa) := by show Below _ _ _; rw [hwa]; exact H1.out.alloc H1.out.size _
  rw [← hwa]
  have hz0 := H1.out.size
  clear hwa H1
  refine (logSig_any st t F _ _ _ (HB.out.1.calm HA.out)).mono ?_
  rw [HS2.out]
  rintro e w2 ⟨rfl, hb⟩
  have hgb := (hb.block _ hna).trans hga
  have hz2 := hb.size
  have H2 : Hid (Below w.heap.size w w2) := HA.out.trans (hb.mono (by omega))
  clear hb hga HA
  go_wp2_with fail
  obtain ⟨wb, hwb⟩ : ∃ wb, wb = w2.alloc (.cells #[.int .u64 (s2 0), .int .u64 (s2 1), .int .u64 (s2 2), .int .u64 (s2 3), .int .u64 (s2 4), .int .u64 (s2 5), .int .u64 (s2 6), .int .u64 (s2 7)] 30) := ⟨_, rfl⟩
  have hg1 : wb.heap[w1.heap.size]? = some (.cells #[.int .u64 (s1 0), .int .u64 (s1 1), .int .u64 (s1 2), .int .u64 (s1 3), .int .u64 (s1 4), .int .u64 (s1 5), .int .u64 (s1 6), .int .u64 (s1 7)] 30) := by rw [hwb]; exact heapAlloc_old hgb _
  have hg2 : wb.heap[w2.heap.size]? = some (.cells #[.int .u64 (s2 0), .int .u64 (s2 1), .int .u64 (s2 2), .int .u64 (s2 3), .int .u64 (s2 4), .int .u64 (s2 5), .int .u64 (s2 6), .int .u64 (s2 7)] 30) := by rw [hwb]; exact heapAlloc _ _
  have hnb : w2.heap.size < wb.heap.size := by rw [hwb]; simp
  have HA : Hid (Below w.heap.size w wb) := by show Below _ _ _; rw [hwb]; exact H2.out.alloc H2.out.size _
  rw [← hwb]
  clear hwb H2 hgb
  refine (rlogReads_any st r G told HL.out _ (HB.out.2.1.calm HA.out)).mono ?_
  rw [HS1.out]
  rintro e w3 ⟨rfl, hb⟩
  have hh1 := (hb.block _ (by omega)).trans hg1
  have hh2 := (hb.block _ hnb).trans hg2
  have hz3 := hb.size
  have H3 : Hid (Below w.heap.size w w3) := HA.out.trans (hb.mono (by omega))
  clear hb hg1 hg2 HA
  go_wp2_with fail
  obtain ⟨wc, hwc⟩ : ∃ wc, wc = w3.alloc (.cells #[.int .u64 (s1 0), .int .u64 (s1 1), .int .u64 (s1 2), .int .u64 (s1 3), .int .u64 (s1 4), .int .u64 (s1 5), .int .u64 (s1 6), .int .u64 (s1 7)] 30) := ⟨_, rfl⟩
  have hg1 : wc.heap[w1.heap.size]? = some (.cells #[.int .u64 (s1 0), .int .u64 (s1 1), .int .u64 (s1 2), .int .u64 (s1 3), .int .u64 (s1 4), .int .u64 (s1 5), .int .u64 (s1 6), .int .u64 (s1 7)] 30) := by rw [hwc]; exact heapAlloc_old hh1 _
  have hg2 : wc.heap[w2.heap.size]? = some (.cells #[.int .u64 (s2 0), .int .u64 (s2 1), .int .u64 (s2 2), .int .u64 (s2 3), .int .u64 (s2 4), .int .u64 (s2 5), .int .u64 (s2 6), .int .u64 (s2 7)] 30) := by rw [hwc]; exact heapAlloc_old hh2 _
  have hg3 : wc.heap[w3.heap.size]? = some (.cells #[.int .u64 (s1 0), .int .u64 (s1 1), .int .u64 (s1 2), .int .u64 (s1 3), .int .u64 (s1 4), .int .u64 (s1 5), .int .u64 (s1 6), .int .u64 (s1 7)] 30) := by rw [hwc]; exact heapAlloc _ _
  have hnc : w3.heap.size < wc.heap.size := by rw [hwc]; simp
  have HA : Hid (Below w.heap.size w wc) := by show Below _ _ _; rw [hwc]; exact H3.out.alloc H3.out.size _
  rw [← hwc]
  clear hwc H3 hh1 hh2
  refine (rlogSig_any st HI.out r G told _ (HB.out.2.1.calm HA.out)).mono ?_
  rw [HS2.out]
  rintro e w4 ⟨rfl, hb⟩
  obtain ⟨a0, a1, a2, a3, a4, a5, a6, a7, _⟩ := blk_facts (heapAlloc_old ((hb.block _ (by omega)).trans hg1) (.cells #[.int .u64 (s2 0), .int .u64 (s2 1), .int .u64 (s2 2), .int .u64 (s2 3), .int .u64 (s2 4), .int .u64 (s2 5), .int .u64 (s2 6), .int .u64 (s2 7)] 30))
  obtain ⟨b0, b1, b2, b3, b4, b5, b6, b7, _⟩ := blk_facts (heapAlloc_old ((hb.block _ (by omega)).trans hg2) (.cells #[.int .u64 (s2 0), .int .u64 (s2 1), .int .u64 (s2 2), .int .u64 (s2 3), .int .u64 (s2 4), .int .u64 (s2 5), .int .u64 (s2 6), .int .u64 (s2 7)] 30))
  obtain ⟨c0, c1, c2, c3, c4, c5, c6, c7, _⟩ := blk_facts (heapAlloc_old ((hb.block _ hnc).trans hg3) (.cells #[.int .u64 (s2 0), .int .u64 (s2 1), .int .u64 (s2 2), .int .u64 (s2 3), .int .u64 (s2 4), .int .u64 (s2 5), .int .u64 (s2 6), .int .u64 (s2 7)] 30))
  have H4 : Hid (Below w.heap.size w w4) := HA.out.trans (hb.mono (by omega))
  have hz4 := hb.size
  have n1 : ¬ (w1.heap.size = w4.heap.size) := by omega
  have n2 : ¬ (w2.heap.size = w4.heap.size) := by omega
  have n3 : ¬ (w3.heap.size = w4.heap.size) := by omega
  clear hb hg1 hg2 hg3 HA
  go_wp2_with fail
  go_ret
  exact ⟨ret_bool (by simp), HB.out.refl (H4.out.alloc H4.out.size _)⟩
set_option maxHeartbeats 1000000 in
theorem lone_writes (st : TS) (told : List Int) (hI : Inv st) (t r : Nat) (F G : Nat → Prop) (w : World) (h : LBoth w t r st told F G) (c v : Int) :
    Calls Try.prog 17 #[.pointer (some ⟨t, 0, none⟩), .pointer (some ⟨r, 0, none⟩), .agg #[.int .i64 4, .int .i64 c, .int .i64 v]] w (LOne w t r F G st told) := by
  have HB := Lib.hid h
  have HI := Lib.hid hI
  have H0 : Hid (Below w.heap.size w (w.alloc (.cells #[.int .i64 4, .int .i64 c, .int .i64 v] 46))) := (Below.refl _ _).alloc (Nat.le_refl _) _
  clear h hI
  go_enter Try.func17, Try.ntmps17
  go_wp2_with fail
  refine (logWrites_any st HI.out t F _ _ _ (HB.out.1.calm H0.out)).mono ?_
  rintro e w1 ⟨v1, rfl, ho1, hb⟩
  have H1 : Hid (Below w.heap.size w w1) := H0.out.trans (hb.mono (by simp))
  have HO1 := Lib.hid (own_zero ho1)
  clear ho1 hb
  go_wp2_with fail
  refine (rlogWrites_any st HI.out r G told _ (HB.out.2.1.calm H1.out)).mono ?_
  rintro e w2 ⟨v2, rfl, ho2, hb⟩
  have H2 : Hid (Below w.heap.size w w2) := H1.out.trans (hb.mono H1.out.size)
  have HO2 := Lib.hid (own_zero ho2)
  have HO3 := Lib.hid (own_calm HO1.out hb)
  clear ho2 hb
  go_wp2_with fail
  refine (sameWrites_any v1 v2 st.rows st.rows _ HO3.out HO2.out).mono ?_
  rintro e w3 ⟨rfl, hb⟩
  have H3 : Hid (Below w.heap.size w w3) := H2.out.trans (hb.mono H2.out.size)
  clear hb
  go_wp2_with fail
  go_ret
  exact ⟨ret_bool (by simp), HB.out.refl H3.out⟩
set_option maxHeartbeats 1000000 in
theorem lone_clear (st : TS) (told : List Int) (hI : Inv st) (t r : Nat) (F G : Nat → Prop) (w : World) (h : LBoth w t r st told F G) (k c v : Int) (hk : ¬ (k = 0) ∧ ¬ (k = 1) ∧ ¬ (k = 2) ∧ ¬ (k = 3) ∧ ¬ (k = 4)) :
    Calls Try.prog 17 #[.pointer (some ⟨t, 0, none⟩), .pointer (some ⟨r, 0, none⟩), .agg #[.int .i64 k, .int .i64 c, .int .i64 v]] w (LOne w t r F G (newT st.most) []) := by
  have HB := Lib.hid h
  have HI := Lib.hid hI
  have H0 : Hid (Below w.heap.size w (w.alloc (.cells #[.int .i64 k, .int .i64 c, .int .i64 v] 46))) := (Below.refl _ _).alloc (Nat.le_refl _) _
  have hk0 : (k == 0) = false := by simp; exact hk.1
  have hk1 : (k == 1) = false := by simp; exact hk.2.1
  have hk2 : (k == 2) = false := by simp; exact hk.2.2.1
  have hk3 : (k == 3) = false := by simp; exact hk.2.2.2.1
  have hk4 : (k == 4) = false := by simp; exact hk.2.2.2.2
  clear h hI hk
  go_enter Try.func17, Try.ntmps17
  go_wp2_with fail
  refine (logClear_any st t F _ _ _ (HB.out.1.calm H0.out)).mono ?_
  rintro e w1 ⟨rfl, F', hT, hc1, hf1⟩
  have H1 := Lib.hid (And.intro hT (And.intro hc1 hf1))
  clear hT hc1 hf1
  go_wp2_with fail
  refine (rlogClear_any st HI.out r G told _ (RLogObj.after HB.out H0.out H1.out.2.1)).mono ?_
  rintro e w2 ⟨rfl, G', hR, hc2, hf2⟩
  have H2 : Hid (LBothStep w t r F G (newT st.most) [] w2) := lboth_step (st' := newT st.most) (told' := []) HB.out H0.out H1.out.1 H1.out.2.1 H1.out.2.2 hR hc2 hf2
  clear hR hc2 hf2
  go_wp2_with fail
  go_ret
  exact ⟨rfl, H2.out⟩
/-- Whatever the step: both do it, alike. -/
theorem lone_any (st : TS) (told : List Int) (hI : Inv st) (hto : ToldOk told) (t r : Nat) (F G : Nat → Prop) (w : World) (h : LBoth w t r st told F G) (k c v : Int) :
    Calls Try.prog 17 #[.pointer (some ⟨t, 0, none⟩), .pointer (some ⟨r, 0, none⟩), .agg #[.int .i64 k, .int .i64 c, .int .i64 v]] w (LOne w t r F G (stepL st k c v) (stepR told k c)) := by
  unfold stepL stepR
  by_cases h0 : k = 0
  · subst h0; exact lone_put st told hI t r F G w h c v
  · rw [if_neg h0]
    by_cases h1 : k = 1
    · subst h1; exact lone_own st told hI t r F G w h c v
    · by_cases h2 : k = 2
      · subst h2; rw [if_pos (by simp), if_pos rfl]; exact lone_read st told hto t r F G w h c v
      · rw [if_neg h2]
        by_cases h3 : k = 3
        · subst h3; rw [if_pos (by simp), if_pos (by simp)]; exact lone_sigs st told hI hto t r F G w h c v
        · by_cases h4 : k = 4
          · subst h4; rw [if_pos (by simp), if_pos (by simp)]; exact lone_writes st told hI t r F G w h c v
          · rw [if_neg (by omega), if_neg (by omega)]
            exact lone_clear st told hI t r F G w h k c v ⟨h0, h1, h2, h3, h4⟩
end Go.Proofs.Ytekmdekcncgkfaa
