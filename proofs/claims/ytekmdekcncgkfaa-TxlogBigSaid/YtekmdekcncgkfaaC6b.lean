/- Layer 6: how the reference's log lies in memory; its contracts. -/
import Derived.Test.YtekmdekcncgkfaaC6a
namespace Go.Proofs.Ytekmdekcncgkfaa
open Go.RowKit
set_option linter.unusedVariables false
def RLogObj (w : World) (r : Nat) (st : TS) (told : List Int) (G : Nat → Prop) : Prop :=
  ∃ T GT tv, w.heap[r]? = some (.cells #[.pointer (some ⟨T, 0, none⟩), tv] 65) ∧ RefObj w T st GT ∧ w.ownsRow 0 3 1 tv told.length (told.map (Value.int .i64)) ∧ ¬ GT r ∧ tv.ownBlock ≠ some r ∧ (∀ b, GT b → tv.ownBlock ≠ some b) ∧ ∀ b, G b ↔ b = r ∨ GT b ∨ tv.ownBlock = some b
theorem RLogObj.chg {S G : Nat → Prop} {w w' : World} {r : Nat} {st : TS} {told : List Int} (h : RLogObj w r st told G) (hc : Chg S w w') (hS : ∀ b, G b → ¬ S b) : RLogObj w' r st told G := by
  obtain ⟨T, GT, tv, h1, h2, h3, h4, h5, h6, h7⟩ := h
  exact ⟨T, GT, tv, (hc.block r (heap_lt h1) (hS r ((h7 r).2 (.inl rfl)))).trans h1, h2.chg hc (fun b hb => hS b ((h7 b).2 (.inr (.inl hb)))), own_chg h3 hc (fun b hb => hS b ((h7 b).2 (.inr (.inr hb)))), h4, h5, h6, h7⟩
theorem RLogObj.calm {G : Nat → Prop} {w w' : World} {r : Nat} {st : TS} {told : List Int} (h : RLogObj w r st told G) (hb : Below w.heap.size w w') : RLogObj w' r st told G := h.chg (S := fun _ => False) (Chg.calm _ hb) fun _ _ h => h
theorem RLogObj.lt {G : Nat → Prop} {w : World} {r : Nat} {st : TS} {told : List Int} (h : RLogObj w r st told G) {b : Nat} (hb : G b) : b < w.heap.size := by
  obtain ⟨T, GT, tv, h1, h2, h3, h4, h5, h6, h7⟩ := h
  rcases (h7 b).1 hb with rfl | e | e
  · exact heap_lt h1
  · exact h2.lt e
  · exact own_lt h3 e
theorem rlog_cells {w : World} {r : Nat} {p tv : Value} {T : TypeId} (h : w.heap[r]? = some (.cells #[p, tv] T)) : w.cell? ⟨r, 0, none⟩ = some p ∧ w.cell? ⟨r, 1, none⟩ = some tv ∧ ∀ o, w.frozen? ⟨r, o, none⟩ = false :=
  ⟨by simp [World.cell?, h], by simp [World.cell?, h], fun o => by simp [World.frozen?, h]⟩
theorem rlog_after {w w1 : World} {r T : Nat} {GT G : Nat → Prop} {st' : TS} {told : List Int} {tv : Value} (h1 : w.heap[r]? = some (.cells #[.pointer (some ⟨T, 0, none⟩), tv] 65)) (h3 : w.ownsRow 0 3 1 tv told.length (told.map (Value.int .i64))) (h4 : ¬ GT r) (h5 : tv.ownBlock ≠ some r) (h6 : ∀ b, GT b → tv.ownBlock ≠ some b) (h7 : ∀ b, G b ↔ b = r ∨ GT b ∨ tv.ownBlock = some b)
    {GT' : Nat → Prop} (hT : RefObj w1 T st' GT') (hC : Chg GT w w1) (hf : ∀ b, GT' b → GT b ∨ w.heap.size ≤ b) :
    RLogObj w1 r st' told (fun b => b = r ∨ GT' b ∨ tv.ownBlock = some b) ∧ Chg G w w1 ∧ ∀ b, (b = r ∨ GT' b ∨ tv.ownBlock = some b) → G b ∨ w.heap.size ≤ b := by
  have hl := heap_lt h1
  refine ⟨⟨T, GT', tv, (hC.block r hl h4).trans h1, hT, own_chg h3 hC (fun b hb hg => h6 b hg hb), fun h => ?_, h5, fun b hb e => ?_, fun b => Iff.rfl⟩, hC.mono (fun b hb => (h7 b).2 (.inr (.inl hb))), ?_⟩
  · exact (hf r h).elim h4 (fun h => by omega)
  · rcases hf b hb with h | h
    · exact h6 b h e
    · have := own_lt h3 e; omega
  · rintro b (rfl | h | h)
    · exact .inl ((h7 _).2 (.inl rfl))
    · exact (hf b h).imp (fun h => (h7 b).2 (.inr (.inl h))) id
    · exact .inl ((h7 b).2 (.inr (.inr h)))
/-- A call of the reference's log has answered. -/
def RLogPut (w : World) (r : Nat) (G : Nat → Prop) (st' : TS) (told : List Int) (x : Value) (e : Ending) (w' : World) : Prop :=
  e = .returned x ∧ ∃ G', RLogObj w' r st' told G' ∧ Chg G w w' ∧ ∀ b, G' b → G b ∨ w.heap.size ≤ b
set_option maxHeartbeats 1000000 in
theorem rlogWrite_any (st : TS) (hI : Inv st) (r : Nat) (G : Nat → Prop) (told : List Int) (w : World) (h : RLogObj w r st told G) (c v : Int) :
    Calls Try.prog 26 #[.pointer (some ⟨r, 0, none⟩), .int .i64 c, .int .i64 v] w (RLogPut w r G (putT st c v) told (.int .i64 (logE st c))) := by
  obtain ⟨T, GT, tv, h1, h2, h3, h4, h5, h6, h7⟩ := h
  obtain ⟨p0, p1, fz⟩ := rlog_cells h1
  have HC := Lib.hid (refTabPut_any st hI T GT w h2 c v)
  have HPE := Lib.hid (putE_cases st c)
  have H1 := Lib.hid (And.intro h1 (And.intro h3 (And.intro h4 (And.intro h5 (And.intro h6 h7)))))
  have HY : Hid (logE st c = if putE st c = 2 then 5 else putE st c) := rfl
  generalize logE st c = y at *
  generalize putE st c = x at *
  generalize putT st c v = st2 at *
  clear h1 h2 h3 h4 h5 h6 h7 hI
  go_enter Try.func26, Try.ntmps26
  go_wp2_with fail
  refine HC.out.mono ?_
  rintro e w1 ⟨rfl, GT', hT, hC, hf⟩
  obtain ⟨a1, a3, a4, a5, a6, a7⟩ := H1.out
  have HL := Lib.hid (rlog_after a1 a3 a4 a5 a6 a7 hT hC hf)
  clear hT hC hf p0 p1 fz HC a1 a3 a4 a5 a6 a7
  rcases HPE.out with rfl | rfl | rfl
  all_goals
    go_wp2_with fail
    go_ret
    exact ⟨by rw [HY.out]; rfl, _, HL.out⟩
theorem rlogOwn_any (st : TS) (r : Nat) (G : Nat → Prop) (told : List Int) (w : World) (h : RLogObj w r st told G) (c : Int) :
    Calls Try.prog 27 #[.pointer (some ⟨r, 0, none⟩), .int .i64 c] w fun e w' => e = .returned (.tuple #[.int .i64 (getV st c), .bool (getB st c)]) ∧ w = w' := by
  obtain ⟨T, GT, tv, h1, h2, h3, h4, h5, h6, h7⟩ := h
  obtain ⟨p0, p1, fz⟩ := rlog_cells h1
  have HC := Lib.hid (refGet_obj st T GT w h2 c)
  generalize getV st c = x at *
  generalize getB st c = y at *
  clear h1 h2 h3 h4 h5 h6 h7
  go_enter Try.func27, Try.ntmps27
  go_wp2_with fail
  refine HC.out.mono ?_
  rintro e w1 ⟨rfl, rfl⟩
  go_wp2_with fail
  go_ret2
  exact ⟨rfl, rfl⟩
theorem rlogWrites_any (st : TS) (hI : Inv st) (r : Nat) (G : Nat → Prop) (told : List Int) (w : World) (h : RLogObj w r st told G) :
    Calls Try.prog 32 #[.pointer (some ⟨r, 0, none⟩)] w (RowsOut w st.rows) := by
  obtain ⟨T, GT, tv, h1, h2, h3, h4, h5, h6, h7⟩ := h
  obtain ⟨p0, p1, fz⟩ := rlog_cells h1
  have HC := Lib.hid (refList_obj st hI T GT w h2)
  clear h1 h2 h3 h4 h5 h6 h7 hI
  go_enter Try.func32, Try.ntmps32
  go_wp2_with fail
  refine HC.out.mono ?_
  rintro e w1 ⟨v, rfl, ho, hb⟩
  have HB := Lib.hid (And.intro ho hb)
  clear ho hb p0 p1 fz HC
  go_wp2_with fail
  go_ret
  exact ⟨v, rfl, HB.out⟩
set_option maxHeartbeats 1000000 in
theorem rlogClear_any (st : TS) (hI : Inv st) (r : Nat) (G : Nat → Prop) (told : List Int) (w : World) (h : RLogObj w r st told G) :
    Calls Try.prog 33 #[.pointer (some ⟨r, 0, none⟩)] w (RLogPut w r G (newT st.most) [] (.tuple #[])) := by
  obtain ⟨T, GT, tv, h1, h2, h3, h4, h5, h6, h7⟩ := h
  obtain ⟨ta, tc, rfl⟩ := ownAt_form h3
  obtain ⟨p0, p1, fz⟩ := rlog_cells h1
  have HC := Lib.hid (refClear_obj st hI T GT w h2)
  have H1 := Lib.hid (And.intro h1 (And.intro h3 (And.intro h4 (And.intro h5 (And.intro h6 h7)))))
  clear h1 h2 h3 h4 h5 h6 h7 hI
  go_enter Try.func33, Try.ntmps33
  go_wp2_with fail
  refine HC.out.mono ?_
  rintro e w1 ⟨rfl, GT', hT, hC, hf⟩
  obtain ⟨a1, a3, a4, a5, a6, a7⟩ := H1.out
  have hrl := heap_lt a1
  have hz := hC.size
  have hb1 : w1.heap[r]? = some (.cells #[.pointer (some ⟨T, 0, none⟩), .slice ta told.length tc] 65) := (hC.block r hrl a4).trans a1
  have HB1 := Lib.hid hb1
  have HT := Lib.hid (And.intro hT (And.intro hC hf))
  obtain ⟨p0', p1', fz'⟩ := rlog_cells hb1
  clear hT hC hf p0 p1 fz HC a1 a3 a5 a6 a7 hb1
  have HN4 := Lib.hid a4
  clear a4
  go_wp2_with fail
  refine bodyPost_end (results_none rfl _ _ _) rfl ?_
  obtain ⟨hT, hC, hf⟩ := HT.out
  have hnl : ¬ GT' r := fun hb => (hf _ hb).elim HN4.out (fun h => by omega)
  refine ⟨rfl, fun b => b = r ∨ GT' b, ⟨T, GT', .slice none 0 0, (heapSet_eq _ _ _ _ _ _ _ HB1.out).trans (by simp), hT.chg (Chg.setCell _ _ _) (fun b hb (e : b = r) => by subst e; exact hnl hb), World.ownsRow_nil _ _ _ _, hnl, by simp [Value.ownBlock], fun b _ => by simp [Value.ownBlock], fun b => ?_⟩, ?_, ?_⟩
  · simp [Value.ownBlock]
  · exact (hC.mono (fun b hb => (H1.out.2.2.2.2.2 b).2 (.inr (.inl hb)))).trans (Chg.setCell _ _ _) (fun _ h => h) (fun b _ (e : b = r) => (H1.out.2.2.2.2.2 b).2 (.inl e))
  · rintro b (rfl | h)
    · exact .inl ((H1.out.2.2.2.2.2 _).2 (.inl rfl))
    · exact (hf b h).imp (fun h => (H1.out.2.2.2.2.2 b).2 (.inr (.inl h))) id
end Go.Proofs.Ytekmdekcncgkfaa
