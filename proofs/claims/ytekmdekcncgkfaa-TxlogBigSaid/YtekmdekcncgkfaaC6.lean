/- Layer 6: how the two logs lie in memory; contracts of the program's log. -/
import Derived.Test.YtekmdekcncgkfaaS6
import Derived.Test.YtekmdekcncgkfaaC5o
namespace Go.Proofs.Ytekmdekcncgkfaa
open Go.RowKit
set_option linter.unusedVariables false
/-- The program's log at l; its blocks are those of F. -/
def LogObj (w : World) (l : Nat) (st : TS) (rs ws : Nat → Int) (F : Nat → Prop) : Prop :=
  ∃ t FT, w.heap[l]? = some (.cells #[.pointer (some ⟨t, 0, none⟩), .int .u64 (rs 0), .int .u64 (rs 1), .int .u64 (rs 2), .int .u64 (rs 3), .int .u64 (rs 4), .int .u64 (rs 5), .int .u64 (rs 6), .int .u64 (rs 7), .int .u64 (ws 0), .int .u64 (ws 1), .int .u64 (ws 2), .int .u64 (ws 3), .int .u64 (ws 4), .int .u64 (ws 5), .int .u64 (ws 6), .int .u64 (ws 7)] 56) ∧ TabObj w t st FT ∧ ¬ FT l ∧ ∀ b, F b ↔ b = l ∨ FT b
theorem LogObj.chg {S F : Nat → Prop} {w w' : World} {l : Nat} {st : TS} {rs ws : Nat → Int} (h : LogObj w l st rs ws F) (hc : Chg S w w') (hS : ∀ b, F b → ¬ S b) : LogObj w' l st rs ws F := by
  obtain ⟨t, FT, h1, h2, h3, h4⟩ := h
  exact ⟨t, FT, (hc.block l (heap_lt h1) (hS l ((h4 l).2 (.inl rfl)))).trans h1, h2.chg hc (fun b hb => hS b ((h4 b).2 (.inr hb))), h3, h4⟩
theorem LogObj.calm {F : Nat → Prop} {w w' : World} {l : Nat} {st : TS} {rs ws : Nat → Int} (h : LogObj w l st rs ws F) (hb : Below w.heap.size w w') : LogObj w' l st rs ws F := h.chg (S := fun _ => False) (Chg.calm _ hb) fun _ _ h => h
theorem LogObj.lt {F : Nat → Prop} {w : World} {l : Nat} {st : TS} {rs ws : Nat → Int} (h : LogObj w l st rs ws F) {b : Nat} (hb : F b) : b < w.heap.size := by
  obtain ⟨t, FT, h1, h2, h3, h4⟩ := h
  rcases (h4 b).1 hb with rfl | e
  · exact heap_lt h1
  · exact h2.lt e
theorem log_cells {w : World} {l : Nat} {p : Value} {rs ws : Nat → Int} {T : TypeId} (h : w.heap[l]? = some (.cells #[p, .int .u64 (rs 0), .int .u64 (rs 1), .int .u64 (rs 2), .int .u64 (rs 3), .int .u64 (rs 4), .int .u64 (rs 5), .int .u64 (rs 6), .int .u64 (rs 7), .int .u64 (ws 0), .int .u64 (ws 1), .int .u64 (ws 2), .int .u64 (ws 3), .int .u64 (ws 4), .int .u64 (ws 5), .int .u64 (ws 6), .int .u64 (ws 7)] T)) :
    w.cell? ⟨l, 0, none⟩ = some p ∧ (w.cell? ⟨l, 1, none⟩ = some (.int .u64 (rs 0)) ∧ w.cell? ⟨l, 2, none⟩ = some (.int .u64 (rs 1)) ∧ w.cell? ⟨l, 3, none⟩ = some (.int .u64 (rs 2)) ∧ w.cell? ⟨l, 4, none⟩ = some (.int .u64 (rs 3)) ∧ w.cell? ⟨l, 5, none⟩ = some (.int .u64 (rs 4)) ∧ w.cell? ⟨l, 6, none⟩ = some (.int .u64 (rs 5)) ∧ w.cell? ⟨l, 7, none⟩ = some (.int .u64 (rs 6)) ∧ w.cell? ⟨l, 8, none⟩ = some (.int .u64 (rs 7))) ∧
    (w.cell? ⟨l, 9, none⟩ = some (.int .u64 (ws 0)) ∧ w.cell? ⟨l, 10, none⟩ = some (.int .u64 (ws 1)) ∧ w.cell? ⟨l, 11, none⟩ = some (.int .u64 (ws 2)) ∧ w.cell? ⟨l, 12, none⟩ = some (.int .u64 (ws 3)) ∧ w.cell? ⟨l, 13, none⟩ = some (.int .u64 (ws 4)) ∧ w.cell? ⟨l, 14, none⟩ = some (.int .u64 (ws 5)) ∧ w.cell? ⟨l, 15, none⟩ = some (.int .u64 (ws 6)) ∧ w.cell? ⟨l, 16, none⟩ = some (.int .u64 (ws 7))) ∧ ∀ o, w.frozen? ⟨l, o, none⟩ = false :=
  ⟨by simp [World.cell?, h], ⟨by simp [World.cell?, h], by simp [World.cell?, h], by simp [World.cell?, h], by simp [World.cell?, h], by simp [World.cell?, h], by simp [World.cell?, h], by simp [World.cell?, h], by simp [World.cell?, h]⟩, ⟨by simp [World.cell?, h], by simp [World.cell?, h], by simp [World.cell?, h], by simp [World.cell?, h], by simp [World.cell?, h], by simp [World.cell?, h], by simp [World.cell?, h], by simp [World.cell?, h]⟩, fun o => by simp [World.frozen?, h]⟩
/-- Eight cells of a block are stored, from o on. -/
def set8o (w : World) (b o : Nat) (t : Nat → Int) : World := (((((((w.setCell ⟨b, o, none⟩ (.int .u64 (t 0))).setCell ⟨b, o + 1, none⟩ (.int .u64 (t 1))).setCell ⟨b, o + 2, none⟩ (.int .u64 (t 2))).setCell ⟨b, o + 3, none⟩ (.int .u64 (t 3))).setCell ⟨b, o + 4, none⟩ (.int .u64 (t 4))).setCell ⟨b, o + 5, none⟩ (.int .u64 (t 5))).setCell ⟨b, o + 6, none⟩ (.int .u64 (t 6))).setCell ⟨b, o + 7, none⟩ (.int .u64 (t 7))
theorem set8o_heap {w : World} {b o : Nat} {cs : Array Value} {T : TypeId} {fr : Nat × Nat} (h : w.heap[b]? = some (.cells cs T fr)) (t : Nat → Int) : (set8o w b o t).heap[b]? = some (.cells ((((((((cs.setIfInBounds o (.int .u64 (t 0))).setIfInBounds (o + 1) (.int .u64 (t 1))).setIfInBounds (o + 2) (.int .u64 (t 2))).setIfInBounds (o + 3) (.int .u64 (t 3))).setIfInBounds (o + 4) (.int .u64 (t 4))).setIfInBounds (o + 5) (.int .u64 (t 5))).setIfInBounds (o + 6) (.int .u64 (t 6))).setIfInBounds (o + 7) (.int .u64 (t 7))) T fr) :=
  heapSet_eq _ _ _ _ _ _ _ (heapSet_eq _ _ _ _ _ _ _ (heapSet_eq _ _ _ _ _ _ _ (heapSet_eq _ _ _ _ _ _ _ (heapSet_eq _ _ _ _ _ _ _ (heapSet_eq _ _ _ _ _ _ _ (heapSet_eq _ _ _ _ _ _ _ (heapSet_eq _ _ _ _ _ _ _ h)))))))
theorem set8o_chg (w : World) (b o : Nat) (t : Nat → Int) : Chg (fun k => k = b) w (set8o w b o t) :=
  ((((((((Chg.refl (fun k => k = b) w).set ⟨b, o, none⟩ _ (.inr rfl)).set ⟨b, o + 1, none⟩ _ (.inr rfl)).set ⟨b, o + 2, none⟩ _ (.inr rfl)).set ⟨b, o + 3, none⟩ _ (.inr rfl)).set ⟨b, o + 4, none⟩ _ (.inr rfl)).set ⟨b, o + 5, none⟩ _ (.inr rfl)).set ⟨b, o + 6, none⟩ _ (.inr rfl)).set ⟨b, o + 7, none⟩ _ (.inr rfl)
/-- The program's Write has answered. -/
def LogPut (w : World) (l : Nat) (F : Nat → Prop) (st' : TS) (rs ws : Nat → Int) (x : Int) (e : Ending) (w' : World) : Prop :=
  e = .returned (.int .i64 x) ∧ ∃ F', LogObj w' l st' rs ws F' ∧ Chg F w w' ∧ ∀ b, F' b → F b ∨ w.heap.size ≤ b
/-- Behind the table's Put. -/
theorem log_after {w w1 : World} {l t : Nat} {FT F : Nat → Prop} {st' : TS} {rs ws : Nat → Int} {T : TypeId} (h1 : w.heap[l]? = some (.cells #[.pointer (some ⟨t, 0, none⟩), .int .u64 (rs 0), .int .u64 (rs 1), .int .u64 (rs 2), .int .u64 (rs 3), .int .u64 (rs 4), .int .u64 (rs 5), .int .u64 (rs 6), .int .u64 (rs 7), .int .u64 (ws 0), .int .u64 (ws 1), .int .u64 (ws 2), .int .u64 (ws 3), .int .u64 (ws 4), .int .u64 (ws 5), .int .u64 (ws 6), .int .u64 (ws 7)] 56)) (h3 : ¬ FT l) (h4 : ∀ b, F b ↔ b = l ∨ FT b)
    {FT' : Nat → Prop} (hT : TabObj w1 t st' FT') (hC : Chg FT w w1) (hf : ∀ b, FT' b → FT b ∨ w.heap.size ≤ b) :
    LogObj w1 l st' rs ws (fun b => b = l ∨ FT' b) ∧ Chg F w w1 ∧ ∀ b, (b = l ∨ FT' b) → F b ∨ w.heap.size ≤ b := by
  have hl := heap_lt h1
  refine ⟨⟨t, FT', (hC.block l hl h3).trans h1, hT, fun h => ?_, fun b => Iff.rfl⟩, hC.mono (fun b hb => (h4 b).2 (.inr hb)), ?_⟩
  · rcases hf l h with h | h
    · exact h3 h
    · omega
  · rintro b (rfl | h)
    · exact .inl ((h4 _).2 (.inl rfl))
    · exact (hf b h).imp (fun h => (h4 b).2 (.inr h)) id
set_option maxHeartbeats 1000000 in
theorem logWrite_any (st : TS) (hI : Inv st) (l : Nat) (F : Nat → Prop) (rs ws : Nat → Int) (hw : Wds ws) (w : World) (h : LogObj w l st rs ws F) (c v : Int) :
    Calls Try.prog 8 #[.pointer (some ⟨l, 0, none⟩), .int .i64 c, .int .i64 v] w (LogPut w l F (putT st c v) rs (if putE st c = 0 then withS ws c else ws) (logE st c)) := by
  obtain ⟨t, FT, h1, h2, h3, h4⟩ := h
  obtain ⟨p0, ⟨r0, r1, r2, r3, r4, r5, r6, r7⟩, ⟨q0, q1, q2, q3, q4, q5, q6, q7⟩, fz⟩ := log_cells h1
  have H1 := Lib.hid h1
  have H2 := Lib.hid h2
  have H3 := Lib.hid h3
  have H4 := Lib.hid h4
  have HI := Lib.hid hI
  have HW := Lib.hid hw
  have HC := Lib.hid (tabPut_any st hI t FT w h2 c v)
  have HPE := Lib.hid (putE_cases st c)
  unfold logE
  generalize putE st c = x at *
  generalize putT st c v = st2 at *
  clear h1 h2 h3 h4 hI hw
  go_enter Try.func8, Try.ntmps8
  go_wp2_with fail
  refine HC.out.mono ?_
  rintro e w1 ⟨rfl, FT', hT, hC, hf⟩
  have HL := Lib.hid (log_after (T := 0) (F := F) H1.out H3.out H4.out hT hC hf)
  have hb1 : w1.heap[l]? = some (.cells #[.pointer (some ⟨t, 0, none⟩), .int .u64 (rs 0), .int .u64 (rs 1), .int .u64 (rs 2), .int .u64 (rs 3), .int .u64 (rs 4), .int .u64 (rs 5), .int .u64 (rs 6), .int .u64 (rs 7), .int .u64 (ws 0), .int .u64 (ws 1), .int .u64 (ws 2), .int .u64 (ws 3), .int .u64 (ws 4), .int .u64 (ws 5), .int .u64 (ws 6), .int .u64 (ws 7)] 56) := (hC.block l (heap_lt H1.out) H3.out).trans H1.out
  have HB1 := Lib.hid hb1
  have HTN := Lib.hid (And.intro hT (fun b => hf b))
  have HCC := Lib.hid hC
  have hz := hC.size
  have hll := heap_lt H1.out
  obtain ⟨p0', ⟨r0', r1', r2', r3', r4', r5', r6', r7'⟩, ⟨q0', q1', q2', q3', q4', q5', q6', q7'⟩, fz'⟩ := log_cells hb1
  clear hT hC hf hb1 p0 r0 r1 r2 r3 r4 r5 r6 r7 q0 q1 q2 q3 q4 q5 q6 q7 fz HC
  rcases HPE.out with rfl | rfl | rfl
  · go_wp2_with fail
    refine (with_any ws HW.out c _).mono ?_
    rintro e w2 ⟨rfl, hb⟩
    have HB2 : Hid (w2.heap[l]? = some (.cells #[.pointer (some ⟨t, 0, none⟩), .int .u64 (rs 0), .int .u64 (rs 1), .int .u64 (rs 2), .int .u64 (rs 3), .int .u64 (rs 4), .int .u64 (rs 5), .int .u64 (rs 6), .int .u64 (rs 7), .int .u64 (ws 0), .int .u64 (ws 1), .int .u64 (ws 2), .int .u64 (ws 3), .int .u64 (ws 4), .int .u64 (ws 5), .int .u64 (ws 6), .int .u64 (ws 7)] 56)) := (hb.block l (by omega)).trans HB1.out
    obtain ⟨p0, ⟨r0, r1, r2, r3, r4, r5, r6, r7⟩, ⟨q0, q1, q2, q3, q4, q5, q6, q7⟩, fz⟩ := log_cells HB2.out
    have HBL := Lib.hid hb
    clear hb p0' r0' r1' r2' r3' r4' r5' r6' r7' q0' q1' q2' q3' q4' q5' q6' q7' fz'
    go_wp2_with fail
    go_ret
    refine ⟨rfl, fun b => b = l ∨ FT' b, ⟨t, FT', ?_, (HTN.out.1.calm HBL.out).chg (set8o_chg w2 l 9 (withS ws c)) (fun b hb e => ?_), fun hb => ?_, fun b => Iff.rfl⟩, ?_, HL.out.2.2⟩
    · exact (set8o_heap (o := 9) HB2.out (withS ws c)).trans (by simp)
    · subst e
      exact (HTN.out.2 _ hb).elim H3.out (fun h => by omega)
    · exact (HTN.out.2 _ hb).elim H3.out (fun h => by omega)
    · exact (HL.out.2.1.step HBL.out).trans (set8o_chg w2 l 9 (withS ws c)) (fun _ h => h) (fun b _ e => (H4.out b).2 (.inl e))
  · go_wp2_with fail
    go_ret
    exact ⟨rfl, _, HL.out⟩
  · go_wp2_with fail
    go_ret
    exact ⟨rfl, _, HL.out⟩
end Go.Proofs.Ytekmdekcncgkfaa
