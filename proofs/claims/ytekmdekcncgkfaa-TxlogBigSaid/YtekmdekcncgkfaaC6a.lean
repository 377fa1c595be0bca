/- Layer 6: the other contracts of the program's log. -/
import Derived.Test.YtekmdekcncgkfaaC6
namespace Go.Proofs.Ytekmdekcncgkfaa
open Go.RowKit
set_option linter.unusedVariables false
theorem logOwn_any (st : TS) (hI : Inv st) (l : Nat) (F : Nat → Prop) (rs ws : Nat → Int) (w : World) (h : LogObj w l st rs ws F) (c : Int) :
    Calls Try.prog 9 #[.pointer (some ⟨l, 0, none⟩), .int .i64 c] w fun e w' => e = .returned (.tuple #[.int .i64 (getV st c), .bool (getB st c)]) ∧ Below w.heap.size w w' := by
  obtain ⟨t, FT, h1, h2, h3, h4⟩ := h
  obtain ⟨p0, _, _, fz⟩ := log_cells h1
  have HC := Lib.hid (tabGet_obj st hI t FT w h2 c)
  generalize getV st c = x at *
  generalize getB st c = y at *
  clear h1 h2 h3 h4 hI
  go_enter Try.func9, Try.ntmps9
  go_wp2_with fail
  refine HC.out.mono ?_
  rintro e w1 ⟨rfl, hb⟩
  have HB := Lib.hid hb
  clear hb p0 fz HC
  go_wp2_with fail
  go_ret2
  exact ⟨rfl, HB.out⟩
/-- The program's Read is through. -/
def LogRead (w : World) (l : Nat) (F : Nat → Prop) (st : TS) (rs ws : Nat → Int) (e : Ending) (w' : World) : Prop :=
  e = .returned (.tuple #[]) ∧ ∃ F', LogObj w' l st rs ws F' ∧ Chg F w w' ∧ ∀ b, F' b → F b ∨ w.heap.size ≤ b
set_option maxHeartbeats 1000000 in
theorem logRead_in (st : TS) (l : Nat) (F : Nat → Prop) (rs ws : Nat → Int) (hr : Wds rs) (w : World) (h : LogObj w l st rs ws F) (c : Int) (hc : 0 ≤ c ∧ c < 1024) :
    Calls Try.prog 10 #[.pointer (some ⟨l, 0, none⟩), .int .i64 c] w (LogRead w l F st (withS rs c) ws) := by
  obtain ⟨t, FT, h1, h2, h3, h4⟩ := h
  obtain ⟨p0, ⟨r0, r1, r2, r3, r4, r5, r6, r7⟩, ⟨q0, q1, q2, q3, q4, q5, q6, q7⟩, fz⟩ := log_cells h1
  have H1 := Lib.hid h1
  have H2 := Lib.hid h2
  have H3 := Lib.hid h3
  have H4 := Lib.hid h4
  have HR := Lib.hid hr
  obtain ⟨hc0, hc1⟩ := hc
  clear h1 h2 h3 h4 hr
  go_enter Try.func10, Try.ntmps10
  go_wp2_with fail
  refine (with_any rs HR.out c _).mono ?_
  rintro e w2 ⟨rfl, hb⟩
  have hll := heap_lt H1.out
  have HB2 : Hid (w2.heap[l]? = some (.cells #[.pointer (some ⟨t, 0, none⟩), .int .u64 (rs 0), .int .u64 (rs 1), .int .u64 (rs 2), .int .u64 (rs 3), .int .u64 (rs 4), .int .u64 (rs 5), .int .u64 (rs 6), .int .u64 (rs 7), .int .u64 (ws 0), .int .u64 (ws 1), .int .u64 (ws 2), .int .u64 (ws 3), .int .u64 (ws 4), .int .u64 (ws 5), .int .u64 (ws 6), .int .u64 (ws 7)] 56)) := (hb.block l hll).trans H1.out
  have HBL := Lib.hid hb
  clear hb p0 r0 r1 r2 r3 r4 r5 r6 r7 q0 q1 q2 q3 q4 q5 q6 q7 fz
  obtain ⟨p0, ⟨r0, r1, r2, r3, r4, r5, r6, r7⟩, ⟨q0, q1, q2, q3, q4, q5, q6, q7⟩, fz⟩ := log_cells HB2.out
  go_wp2_with fail
  refine bodyPost_end (results_none rfl _ _ _) rfl ?_
  refine ⟨rfl, F, ⟨t, FT, ?_, (H2.out.calm HBL.out).chg (set8o_chg w2 l 1 (withS rs c)) (fun b hb e => ?_), H3.out, H4.out⟩, ?_, fun _ h => .inl h⟩
  · exact (set8o_heap (o := 1) HB2.out (withS rs c)).trans (by simp)
  · subst e; exact H3.out hb
  · exact (Chg.calm F HBL.out).trans (set8o_chg w2 l 1 (withS rs c)) (fun _ h => h) (fun b _ e => (H4.out b).2 (.inl e))
theorem logRead_out (st : TS) (l : Nat) (F : Nat → Prop) (rs ws : Nat → Int) (w : World) (h : LogObj w l st rs ws F) (c : Int) (hc : ¬ (0 ≤ c ∧ c < 1024)) :
    Calls Try.prog 10 #[.pointer (some ⟨l, 0, none⟩), .int .i64 c] w (LogRead w l F st rs ws) := by
  have H := Lib.hid h
  clear h
  by_cases hc0 : 0 ≤ c
  · have hc1 : ¬ c < 1024 := fun h => hc ⟨hc0, h⟩
    clear hc
    go_enter Try.func10, Try.ntmps10
    go_wp2_with fail
    refine bodyPost_end (results_none rfl _ _ _) rfl ?_
    exact ⟨rfl, F, H.out, Chg.refl _ _, fun _ h => .inl h⟩
  · clear hc
    go_enter Try.func10, Try.ntmps10
    go_wp2_with fail
    refine bodyPost_end (results_none rfl _ _ _) rfl ?_
    exact ⟨rfl, F, H.out, Chg.refl _ _, fun _ h => .inl h⟩
theorem logReads_any (st : TS) (l : Nat) (F : Nat → Prop) (rs ws : Nat → Int) (w : World) (h : LogObj w l st rs ws F) :
    Calls Try.prog 11 #[.pointer (some ⟨l, 0, none⟩)] w fun e w' => e = .returned (.agg #[.int .u64 (rs 0), .int .u64 (rs 1), .int .u64 (rs 2), .int .u64 (rs 3), .int .u64 (rs 4), .int .u64 (rs 5), .int .u64 (rs 6), .int .u64 (rs 7)]) ∧ Below w.heap.size w w' := by
  obtain ⟨t, FT, h1, h2, h3, h4⟩ := h
  obtain ⟨p0, ⟨r0, r1, r2, r3, r4, r5, r6, r7⟩, _, fz⟩ := log_cells h1
  have hll := heap_lt h1
  clear h1 h2 h3 h4
  go_enter Try.func11, Try.ntmps11
  go_wp2_with fail
  refine bodyPost_ret (v := _) (by simp [results, Try.results11, go_sem]) rfl ⟨rfl, ?_⟩
  exact (Below.refl _ _).alloc (Nat.le_refl _) _
theorem logSig_any (st : TS) (l : Nat) (F : Nat → Prop) (rs ws : Nat → Int) (w : World) (h : LogObj w l st rs ws F) :
    Calls Try.prog 12 #[.pointer (some ⟨l, 0, none⟩)] w fun e w' => e = .returned (.agg #[.int .u64 (ws 0), .int .u64 (ws 1), .int .u64 (ws 2), .int .u64 (ws 3), .int .u64 (ws 4), .int .u64 (ws 5), .int .u64 (ws 6), .int .u64 (ws 7)]) ∧ Below w.heap.size w w' := by
  obtain ⟨t, FT, h1, h2, h3, h4⟩ := h
  obtain ⟨p0, _, ⟨q0, q1, q2, q3, q4, q5, q6, q7⟩, fz⟩ := log_cells h1
  have hll := heap_lt h1
  clear h1 h2 h3 h4
  go_enter Try.func12, Try.ntmps12
  go_wp2_with fail
  refine bodyPost_ret (v := _) (by simp [results, Try.results12, go_sem]) rfl ⟨rfl, ?_⟩
  exact (Below.refl _ _).alloc (Nat.le_refl _) _
theorem logWrites_any (st : TS) (hI : Inv st) (l : Nat) (F : Nat → Prop) (rs ws : Nat → Int) (w : World) (h : LogObj w l st rs ws F) :
    Calls Try.prog 13 #[.pointer (some ⟨l, 0, none⟩)] w (RowsOut w st.rows) := by
  obtain ⟨t, FT, h1, h2, h3, h4⟩ := h
  obtain ⟨p0, _, _, fz⟩ := log_cells h1
  have HC := Lib.hid (tabList_obj st hI t FT w h2)
  clear h1 h2 h3 h4 hI
  go_enter Try.func13, Try.ntmps13
  go_wp2_with fail
  refine HC.out.mono ?_
  rintro e w1 ⟨v, rfl, ho, hb⟩
  have HB := Lib.hid (And.intro ho hb)
  clear ho hb p0 fz HC
  go_wp2_with fail
  go_ret
  exact ⟨v, rfl, HB.out⟩
set_option maxHeartbeats 1000000 in
theorem logClear_any (st : TS) (l : Nat) (F : Nat → Prop) (rs ws : Nat → Int) (w : World) (h : LogObj w l st rs ws F) :
    Calls Try.prog 14 #[.pointer (some ⟨l, 0, none⟩)] w (LogRead w l F (newT st.most) noS noS) := by
  obtain ⟨t, FT, h1, h2, h3, h4⟩ := h
  obtain ⟨p0, _, _, fz⟩ := log_cells h1
  have H1 := Lib.hid h1
  have H3 := Lib.hid h3
  have H4 := Lib.hid h4
  have HC := Lib.hid (clear_obj st t FT w h2)
  clear h1 h2 h3 h4
  go_enter Try.func14, Try.ntmps14
  go_wp2_with fail
  refine HC.out.mono ?_
  rintro e w1 ⟨rfl, FT', hT, hC, hf⟩
  have HL := Lib.hid (log_after (T := 0) (F := F) H1.out H3.out H4.out hT hC hf)
  have hb1 : w1.heap[l]? = some (.cells #[.pointer (some ⟨t, 0, none⟩), .int .u64 (rs 0), .int .u64 (rs 1), .int .u64 (rs 2), .int .u64 (rs 3), .int .u64 (rs 4), .int .u64 (rs 5), .int .u64 (rs 6), .int .u64 (rs 7), .int .u64 (ws 0), .int .u64 (ws 1), .int .u64 (ws 2), .int .u64 (ws 3), .int .u64 (ws 4), .int .u64 (ws 5), .int .u64 (ws 6), .int .u64 (ws 7)] 56) := (hC.block l (heap_lt H1.out) H3.out).trans H1.out
  have HB1 := Lib.hid hb1
  have hz := hC.size
  have hll := heap_lt H1.out
  have HTN := Lib.hid (And.intro hT (fun b => hf b))
  obtain ⟨p0', ⟨r0', r1', r2', r3', r4', r5', r6', r7'⟩, ⟨q0', q1', q2', q3', q4', q5', q6', q7'⟩, fz'⟩ := log_cells hb1
  clear hT hC hf hb1 p0 fz HC
  go_wp2_with fail
  change bodyPost _ _ _ _ _ (set8o (set8o w1 l 1 noS) l 9 noS)
  refine bodyPost_end (results_none rfl _ _ _) rfl ?_
  have hc2 : Chg (fun k => k = l) w1 (set8o (set8o w1 l 1 noS) l 9 noS) := (set8o_chg w1 l 1 noS).trans (set8o_chg _ l 9 noS) (fun _ h => h) (fun _ _ h => h)
  have hnl : ¬ FT' l := fun hb => (HTN.out.2 _ hb).elim H3.out (fun h => by omega)
  refine ⟨rfl, fun b => b = l ∨ FT' b, ⟨t, FT', ?_, HTN.out.1.chg hc2 (fun b hb e => by subst e; exact hnl hb), hnl, fun b => Iff.rfl⟩, HL.out.2.1.trans hc2 (fun _ h => h) (fun b _ e => (H4.out b).2 (.inl e)), HL.out.2.2⟩
  have e1 : (set8o w1 l 1 noS).heap[l]? = some (.cells #[.pointer (some ⟨t, 0, none⟩), .int .u64 (noS 0), .int .u64 (noS 1), .int .u64 (noS 2), .int .u64 (noS 3), .int .u64 (noS 4), .int .u64 (noS 5), .int .u64 (noS 6), .int .u64 (noS 7), .int .u64 (ws 0), .int .u64 (ws 1), .int .u64 (ws 2), .int .u64 (ws 3), .int .u64 (ws 4), .int .u64 (ws 5), .int .u64 (ws 6), .int .u64 (ws 7)] 56) := (set8o_heap (o := 1) HB1.out noS).trans (by simp)
  exact (set8o_heap (o := 9) e1 noS).trans (by simp)
end Go.Proofs.Ytekmdekcncgkfaa
