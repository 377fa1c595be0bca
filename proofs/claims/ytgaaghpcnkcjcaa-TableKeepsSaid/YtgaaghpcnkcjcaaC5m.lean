/- Layer 5: a step, done by both. -/
import Derived.Test.YtgaaghpcnkcjcaaC5l
namespace Go.Proofs.Ytgaaghpcnkcjcaa
open Go.RowKit
set_option linter.unusedVariables false
/-- What a step makes of a table. -/
noncomputable def stepT (st : TS) (k c v : Int) : TS := if k = 0 then putT st c v else if k = 1 ∨ k = 2 ∨ k = 3 ∨ k = 4 then st else newT st.most
theorem stepT_inv {st : TS} (hI : Inv st) (k c v : Int) : Inv (stepT st k c v) := by
  unfold stepT
  split
  · exact putT_inv hI c v
  · split
    · exact hI
    · exact newT_inv _ hI.m1 hI.m2
/-- Both tables at work: each as st says, in blocks of their own. -/
def Both (w : World) (t r : Nat) (st : TS) (F G : Nat → Prop) : Prop := TabObj w t st F ∧ RefObj w r st G ∧ ∀ b, F b → ¬ G b
/-- What one call has made of both. -/
def BothStep (w : World) (t r : Nat) (F G : Nat → Prop) (st' : TS) (w' : World) : Prop :=
  ∃ F' G', Both w' t r st' F' G' ∧ Chg (fun b => F b ∨ G b) w w' ∧ (∀ b, F' b → F b ∨ w.heap.size ≤ b) ∧ ∀ b, G' b → G b ∨ w.heap.size ≤ b
theorem Both.calm {w w' : World} {t r : Nat} {st : TS} {F G : Nat → Prop} (h : Both w t r st F G) (hb : Below w.heap.size w w') : Both w' t r st F G := ⟨h.1.calm hb, h.2.1.calm hb, h.2.2⟩
theorem Both.refl {w w' : World} {t r : Nat} {st : TS} {F G : Nat → Prop} (h : Both w t r st F G) (hb : Below w.heap.size w w') : BothStep w t r F G st w' :=
  ⟨F, G, h.calm hb, Chg.calm _ hb, fun _ h => .inl h, fun _ h => .inl h⟩
/-- The program's table has changed, then the reference's. -/
theorem both_step {w w0 w1 w2 : World} {t r : Nat} {st st' : TS} {F G F' G' : Nat → Prop} (h : Both w t r st F G) (h0 : Below w.heap.size w w0) (hT : TabObj w1 t st' F') (hc1 : Chg F w0 w1) (hf1 : ∀ b, F' b → F b ∨ w0.heap.size ≤ b)
    (hR : RefObj w2 r st' G') (hc2 : Chg G w1 w2) (hf2 : ∀ b, G' b → G b ∨ w1.heap.size ≤ b) : BothStep w t r F G st' w2 := by
  have z0 := h0.size
  have z1 := hc1.size
  have z2 := hc2.size
  have hFG' : ∀ b, F' b → ¬ G b := by
    intro b hb hg
    rcases hf1 b hb with hF | hn
    · exact h.2.2 b hF hg
    · have := h.2.1.lt hg; omega
  refine ⟨F', G', ⟨hT.chg hc2 hFG', hR, fun b hb hg => ?_⟩, ?_, fun b hb => ?_, fun b hb => ?_⟩
  · rcases hf2 b hg with hG | hn
    · exact hFG' b hb hG
    · have := hT.lt hb; omega
  · exact ((Chg.calm (fun b => F b ∨ G b) h0).trans hc1 (fun _ h => h) (fun _ _ h => .inl h)).trans hc2 (fun _ h => h) (fun _ _ h => .inr h)
  · exact (hf1 b hb).imp id (fun h => by omega)
  · exact (hf2 b hb).imp id (fun h => by omega)
theorem RefObj.after {w w0 w1 : World} {t r : Nat} {st st' : TS} {F G : Nat → Prop} (h : Both w t r st F G) (h0 : Below w.heap.size w w0) (hc1 : Chg F w0 w1) : RefObj w1 r st G :=
  (h.2.1.calm h0).chg hc1 (fun b hb hF => h.2.2 b hF hb)
theorem box3 {w : World} {a b c : Int} {T : TypeId} {n : Nat} (h : w.heap[n]? = some (.cells #[.int .i64 a, .int .i64 b, .int .i64 c] T)) :
    w.cell? ⟨n, 0, none⟩ = some (.int .i64 a) ∧ w.cell? ⟨n, 1, none⟩ = some (.int .i64 b) ∧ w.cell? ⟨n, 2, none⟩ = some (.int .i64 c) :=
  ⟨by simp [World.cell?, h], by simp [World.cell?, h], by simp [World.cell?, h]⟩
/-- A step has been done by both, alike. -/
def OnePost (w : World) (t r : Nat) (F G : Nat → Prop) (st' : TS) (e : Ending) (w' : World) : Prop := e = .returned (.bool true) ∧ BothStep w t r F G st' w'
set_option maxHeartbeats 1000000 in
theorem one_put (st : TS) (hI : Inv st) (t r : Nat) (F G : Nat → Prop) (w : World) (h : Both w t r st F G) (c v : Int) :
    Calls Try.prog 25 #[.pointer (some ⟨t, 0, none⟩), .pointer (some ⟨r, 0, none⟩), .agg #[.int .i64 0, .int .i64 c, .int .i64 v]] w (OnePost w t r F G (putT st c v)) := by
  have HB := Lib.hid h
  have HI := Lib.hid hI
  have H0 : Hid (Below w.heap.size w (w.alloc (.cells #[.int .i64 0, .int .i64 c, .int .i64 v] 51))) := (Below.refl _ _).alloc (Nat.le_refl _) _
  obtain ⟨x, HX⟩ : ∃ x, Hid (putE st c = x) := ⟨_, rfl⟩
  obtain ⟨st', HS⟩ : ∃ s, Hid (putT st c v = s) := ⟨_, rfl⟩
  rw [HS.out]
  clear h hI
  go_enter Try.func25, Try.ntmps25
  go_wp2_with fail
  refine (tabPut_any st HI.out t F _ (HB.out.1.calm H0.out) c v).mono ?_
  rw [HX.out, HS.out]
  rintro e w1 ⟨rfl, F', hT, hc1, hf1⟩
  have hbx : w1.heap[w.heap.size]? = some (.cells #[.int .i64 0, .int .i64 c, .int .i64 v] 51) := (hc1.block _ (by simp) (fun hF => by have := HB.out.1.lt hF; omega)).trans (heapAlloc w _)
  obtain ⟨b0, b1, b2⟩ := box3 hbx
  have H1 := Lib.hid (And.intro hT (And.intro hc1 hf1))
  clear hT hc1 hf1 hbx
  go_wp2_with fail
  refine (refPut_any st HI.out r G _ (RefObj.after (st' := st) HB.out H0.out H1.out.2.1) c v).mono ?_
  rw [HX.out, HS.out]
  rintro e w2 ⟨rfl, G', hR, hc2, hf2⟩
  have H2 := Lib.hid (both_step HB.out H0.out H1.out.1 H1.out.2.1 H1.out.2.2 hR hc2 hf2)
  clear hR hc2 hf2 b0 b1 b2
  go_wp2_with fail
  go_ret
  exact ⟨ret_bool (by simp), H2.out⟩
theorem clear_obj (st : TS) (p : Nat) (F : Nat → Prop) (w : World) (h : TabObj w p st F) :
    Calls Try.prog 15 #[.pointer (some ⟨p, 0, none⟩)] w fun e w' => e = .returned (.tuple #[]) ∧ ∃ F', TabObj w' p (newT st.most) F' ∧ Chg F w w' ∧ ∀ b, F' b → F b ∨ w.heap.size ≤ b := by
  obtain ⟨lv, sv, hR, hF⟩ := h
  refine (clear_any st.most p lv st.sl sv w hR.1 (let ⟨a, c, e⟩ := ownAt_form hR.2.2.1; ⟨a, _, c, e⟩) hR.2.1 hR.2.2.2.1).mono ?_
  rintro e w' ⟨he, F', hT, hC, hf⟩
  refine ⟨he, F', hT, hC.mono ?_, fun b hb => .inl ?_⟩
  · rintro b (rfl | e)
    · exact (hF _).2 (.inl rfl)
    · exact (hF _).2 (.inr (.inr e))
  · rcases hf b hb with rfl | e
    · exact (hF _).2 (.inl rfl)
    · exact (hF _).2 (.inr (.inr e))
theorem refClear_obj (st : TS) (hI : Inv st) (p : Nat) (F : Nat → Prop) (w : World) (h : RefObj w p st F) :
    Calls Try.prog 28 #[.pointer (some ⟨p, 0, none⟩)] w fun e w' => e = .returned (.tuple #[]) ∧ ∃ F', RefObj w' p (newT st.most) F' ∧ Chg F w w' ∧ ∀ b, F' b → F b ∨ w.heap.size ≤ b := by
  obtain ⟨lv, sv, hR, hF⟩ := h
  refine (refClear_any st.most hI.m1 hI.m2 p lv sv w hR.1 (let ⟨a, c, e⟩ := ownAt_form hR.2.2.1; ⟨a, _, c, e⟩) (let ⟨a, c, e⟩ := ownAt_form hR.2.1; ⟨a, _, c, e⟩)).mono ?_
  rintro e w' ⟨he, F', hT, hC, hf⟩
  refine ⟨he, F', hT, hC.mono ?_, fun b hb => ?_⟩
  · rintro b rfl
    exact (hF _).2 (.inl rfl)
  · exact (hf b hb).imp (fun e => by subst e; exact (hF _).2 (.inl rfl)) id
theorem tabGet_obj (st : TS) (hI : Inv st) (p : Nat) (F : Nat → Prop) (w : World) (h : TabObj w p st F) (c : Int) :
    Calls Try.prog 11 #[.pointer (some ⟨p, 0, none⟩), .int .i64 c] w fun e w' => e = .returned (.tuple #[.int .i64 (getV st c), .bool (getB st c)]) ∧ Below w.heap.size w w' :=
  let ⟨lv, sv, hR, _⟩ := h; tabGet_any st hI p lv sv w hR c
theorem refGet_obj (st : TS) (p : Nat) (F : Nat → Prop) (w : World) (h : RefObj w p st F) (c : Int) :
    Calls Try.prog 31 #[.pointer (some ⟨p, 0, none⟩), .int .i64 c] w fun e w' => e = .returned (.tuple #[.int .i64 (getV st c), .bool (getB st c)]) ∧ w = w' :=
  let ⟨lv, sv, hR, _⟩ := h; refGet_any st p lv sv w hR c
theorem tabLen_obj (st : TS) (p : Nat) (F : Nat → Prop) (w : World) (h : TabObj w p st F) :
    Calls Try.prog 12 #[.pointer (some ⟨p, 0, none⟩)] w fun e w' => e = .returned (.int .i64 st.rows.length) ∧ w = w' :=
  let ⟨lv, sv, hR, _⟩ := h; tabLen_any st p lv sv w hR
theorem tabList_obj (st : TS) (hI : Inv st) (p : Nat) (F : Nat → Prop) (w : World) (h : TabObj w p st F) : Calls Try.prog 13 #[.pointer (some ⟨p, 0, none⟩)] w (RowsOut w st.rows) :=
  let ⟨lv, sv, hR, _⟩ := h; tabList_any st p lv sv w hR (Nat.le_trans hI.full hI.m2)
theorem refList_obj (st : TS) (hI : Inv st) (p : Nat) (F : Nat → Prop) (w : World) (h : RefObj w p st F) : Calls Try.prog 22 #[.pointer (some ⟨p, 0, none⟩)] w (RowsOut w st.rows) :=
  let ⟨lv, sv, hR, _⟩ := h; refList_any st p lv sv w hR (Nat.le_trans hI.full hI.m2)
theorem tabSlots_obj (st : TS) (hI : Inv st) (p : Nat) (F : Nat → Prop) (w : World) (h : TabObj w p st F) : Calls Try.prog 14 #[.pointer (some ⟨p, 0, none⟩)] w (IntsOut w (slotsC st)) :=
  let ⟨lv, sv, hR, _⟩ := h; tabSlots_any st hI p lv sv w hR
theorem refSlots_obj (st : TS) (hI : Inv st) (p : Nat) (F : Nat → Prop) (w : World) (h : RefObj w p st F) : Calls Try.prog 24 #[.pointer (some ⟨p, 0, none⟩)] w (IntsOut w (slotsC st)) :=
  let ⟨lv, sv, hR, _⟩ := h; refSlots_any st hI p lv sv w hR
theorem own_zero {w : World} {B e sz n : Nat} {v : Value} {xs : List Value} (h : w.ownsRow B e sz v n xs) : w.ownsRow 0 e sz v n xs := own_base h (fun _ _ => Nat.zero_le _)
set_option maxHeartbeats 1000000 in
theorem one_get (st : TS) (hI : Inv st) (t r : Nat) (F G : Nat → Prop) (w : World) (h : Both w t r st F G) (c v : Int) :
    Calls Try.prog 25 #[.pointer (some ⟨t, 0, none⟩), .pointer (some ⟨r, 0, none⟩), .agg #[.int .i64 1, .int .i64 c, .int .i64 v]] w (OnePost w t r F G st) := by
  have HB := Lib.hid h
  have HI := Lib.hid hI
  have H0 : Hid (Below w.heap.size w (w.alloc (.cells #[.int .i64 1, .int .i64 c, .int .i64 v] 51))) := (Below.refl _ _).alloc (Nat.le_refl _) _
  obtain ⟨x, HX⟩ : ∃ x, Hid (getV st c = x) := ⟨_, rfl⟩
  obtain ⟨y, HY⟩ : ∃ x, Hid (getB st c = x) := ⟨_, rfl⟩
  clear h hI
  go_enter Try.func25, Try.ntmps25
  go_wp2_with fail
  refine (tabGet_obj st HI.out t F _ (HB.out.1.calm H0.out) c).mono ?_
  rw [HX.out, HY.out]
  rintro e w1 ⟨rfl, hb⟩
  have hbx : w1.heap[w.heap.size]? = some (.cells #[.int .i64 1, .int .i64 c, .int .i64 v] 51) := (hb.block _ (by simp)).trans (heapAlloc w _)
  obtain ⟨b0, b1, b2⟩ := box3 hbx
  have H1 : Hid (Below w.heap.size w w1) := H0.out.trans (hb.mono (by simp))
  clear hb hbx
  go_wp2_with fail
  refine (refGet_obj st r G _ (HB.out.2.1.calm H1.out) c).mono ?_
  rw [HX.out, HY.out]
  rintro e w2 ⟨rfl, rfl⟩
  clear b0 b1 b2
  go_wp2_with fail
  go_ret
  exact ⟨ret_bool (by simp), HB.out.refl H1.out⟩
set_option maxHeartbeats 1000000 in
theorem one_len (st : TS) (hI : Inv st) (t r : Nat) (F G : Nat → Prop) (w : World) (h : Both w t r st F G) (c v : Int) :
    Calls Try.prog 25 #[.pointer (some ⟨t, 0, none⟩), .pointer (some ⟨r, 0, none⟩), .agg #[.int .i64 2, .int .i64 c, .int .i64 v]] w (OnePost w t r F G st) := by
  have HB := Lib.hid h
  have H0 : Hid (Below w.heap.size w (w.alloc (.cells #[.int .i64 2, .int .i64 c, .int .i64 v] 51))) := (Below.refl _ _).alloc (Nat.le_refl _) _
  obtain ⟨lv, sv, hR, _⟩ := h.2.1
  obtain ⟨a, cap, rfl⟩ := ownAt_form hR.2.2.1
  have hrl : w.cell? ⟨r, 1, none⟩ = some (.slice a st.rows.length cap) := by simp [World.cell?, hR.1]
  have hr := heap_lt hR.1
  clear h hI hR
  go_enter Try.func25, Try.ntmps25
  go_wp2_with fail
  refine (tabLen_obj st t F _ (HB.out.1.calm H0.out)).mono ?_
  rintro e w1 ⟨rfl, rfl⟩
  go_wp2_with fail
  go_ret
  exact ⟨ret_bool (by simp), HB.out.refl H0.out⟩
set_option maxHeartbeats 1000000 in
theorem one_list (st : TS) (hI : Inv st) (t r : Nat) (F G : Nat → Prop) (w : World) (h : Both w t r st F G) (c v : Int) :
    Calls Try.prog 25 #[.pointer (some ⟨t, 0, none⟩), .pointer (some ⟨r, 0, none⟩), .agg #[.int .i64 3, .int .i64 c, .int .i64 v]] w (OnePost w t r F G st) := by
  have HB := Lib.hid h
  have HI := Lib.hid hI
  have H0 : Hid (Below w.heap.size w (w.alloc (.cells #[.int .i64 3, .int .i64 c, .int .i64 v] 51))) := (Below.refl _ _).alloc (Nat.le_refl _) _
  clear h hI
  go_enter Try.func25, Try.ntmps25
  go_wp2_with fail
  refine (tabList_obj st HI.out t F _ (HB.out.1.calm H0.out)).mono ?_
  rintro e w1 ⟨v1, rfl, ho1, hb⟩
  have H1 : Hid (Below w.heap.size w w1) := H0.out.trans (hb.mono (by simp))
  have HO1 := Lib.hid (own_zero ho1)
  clear ho1 hb
  go_wp2_with fail
  refine (refList_obj st HI.out r G _ (HB.out.2.1.calm H1.out)).mono ?_
  rintro e w2 ⟨v2, rfl, ho2, hb⟩
  have H2 : Hid (Below w.heap.size w w2) := H1.out.trans (hb.mono H1.out.size)
  have HO2 := Lib.hid (own_zero ho2)
  have HO3 := Lib.hid (own_calm HO1.out hb)
  clear ho2 hb
  go_wp2_with fail
  refine (sameWrites_any v1 v2 st.rows st.rows _ HO3.out HO2.out).mono ?_
  rintro e w3 ⟨rfl, hb⟩
  have H3 : Hid (Below w.heap.size w w3) := H2.out.trans (hb.mono H2.out.size)
  clear hb
  go_wp2_with fail
  go_ret
  exact ⟨ret_bool (by simp), HB.out.refl H3.out⟩
set_option maxHeartbeats 1000000 in
theorem one_slots (st : TS) (hI : Inv st) (t r : Nat) (F G : Nat → Prop) (w : World) (h : Both w t r st F G) (c v : Int) :
    Calls Try.prog 25 #[.pointer (some ⟨t, 0, none⟩), .pointer (some ⟨r, 0, none⟩), .agg #[.int .i64 4, .int .i64 c, .int .i64 v]] w (OnePost w t r F G st) := by
  have HB := Lib.hid h
  have HI := Lib.hid hI
  have H0 : Hid (Below w.heap.size w (w.alloc (.cells #[.int .i64 4, .int .i64 c, .int .i64 v] 51))) := (Below.refl _ _).alloc (Nat.le_refl _) _
  clear h hI
  go_enter Try.func25, Try.ntmps25
  go_wp2_with fail
  refine (tabSlots_obj st HI.out t F _ (HB.out.1.calm H0.out)).mono ?_
  rintro e w1 ⟨v1, rfl, ho1, hb⟩
  have H1 : Hid (Below w.heap.size w w1) := H0.out.trans (hb.mono (by simp))
  have HO1 := Lib.hid (own_zero ho1)
  clear ho1 hb
  go_wp2_with fail
  refine (refSlots_obj st HI.out r G _ (HB.out.2.1.calm H1.out)).mono ?_
  rintro e w2 ⟨v2, rfl, ho2, hb⟩
  have H2 : Hid (Below w.heap.size w w2) := H1.out.trans (hb.mono H1.out.size)
  have HO2 := Lib.hid (own_zero ho2)
  have HO3 := Lib.hid (own_calm HO1.out hb)
  clear ho2 hb
  go_wp2_with fail
  refine (sameInts_any v1 v2 (slotsC st) (slotsC st) _ HO3.out HO2.out).mono ?_
  rintro e w3 ⟨rfl, hb⟩
  have H3 : Hid (Below w.heap.size w w3) := H2.out.trans (hb.mono H2.out.size)
  clear hb
  go_wp2_with fail
  go_ret
  exact ⟨ret_bool (by simp), HB.out.refl H3.out⟩
set_option maxHeartbeats 1000000 in
theorem one_clear (st : TS) (hI : Inv st) (t r : Nat) (F G : Nat → Prop) (w : World) (h : Both w t r st F G) (k c v : Int) (hk : ¬ (k = 0) ∧ ¬ (k = 1) ∧ ¬ (k = 2) ∧ ¬ (k = 3) ∧ ¬ (k = 4)) :
    Calls Try.prog 25 #[.pointer (some ⟨t, 0, none⟩), .pointer (some ⟨r, 0, none⟩), .agg #[.int .i64 k, .int .i64 c, .int .i64 v]] w (OnePost w t r F G (newT st.most)) := by
  have HB := Lib.hid h
  have HI := Lib.hid hI
  have H0 : Hid (Below w.heap.size w (w.alloc (.cells #[.int .i64 k, .int .i64 c, .int .i64 v] 51))) := (Below.refl _ _).alloc (Nat.le_refl _) _
  have hk0 : (k == 0) = false := by simp; exact hk.1
  have hk1 : (k == 1) = false := by simp; exact hk.2.1
  have hk2 : (k == 2) = false := by simp; exact hk.2.2.1
  have hk3 : (k == 3) = false := by simp; exact hk.2.2.2.1
  have hk4 : (k == 4) = false := by simp; exact hk.2.2.2.2
  clear h hI hk
  go_enter Try.func25, Try.ntmps25
  go_wp2_with fail
  refine (clear_obj st t F _ (HB.out.1.calm H0.out)).mono ?_
  rintro e w1 ⟨rfl, F', hT, hc1, hf1⟩
  have H1 := Lib.hid (And.intro hT (And.intro hc1 hf1))
  clear hT hc1 hf1
  go_wp2_with fail
  refine (refClear_obj st HI.out r G _ (RefObj.after (st' := st) HB.out H0.out H1.out.2.1)).mono ?_
  rintro e w2 ⟨rfl, G', hR, hc2, hf2⟩
  have H2 := Lib.hid (both_step HB.out H0.out H1.out.1 H1.out.2.1 H1.out.2.2 hR hc2 hf2)
  clear hR hc2 hf2
  go_wp2_with fail
  go_ret
  exact ⟨rfl, H2.out⟩
/-- Whatever the step: both do it, alike. -/
theorem one_any (st : TS) (hI : Inv st) (t r : Nat) (F G : Nat → Prop) (w : World) (h : Both w t r st F G) (k c v : Int) :
    Calls Try.prog 25 #[.pointer (some ⟨t, 0, none⟩), .pointer (some ⟨r, 0, none⟩), .agg #[.int .i64 k, .int .i64 c, .int .i64 v]] w (OnePost w t r F G (stepT st k c v)) := by
  unfold stepT
  by_cases h0 : k = 0
  · subst h0; rw [if_pos rfl]; exact one_put st hI t r F G w h c v
  · rw [if_neg h0]
    by_cases h1 : k = 1
    · subst h1; rw [if_pos (by simp)]; exact one_get st hI t r F G w h c v
    · by_cases h2 : k = 2
      · subst h2; rw [if_pos (by simp)]; exact one_len st hI t r F G w h c v
      · by_cases h3 : k = 3
        · subst h3; rw [if_pos (by simp)]; exact one_list st hI t r F G w h c v
        · by_cases h4 : k = 4
          · subst h4; rw [if_pos (by simp)]; exact one_slots st hI t r F G w h c v
          · rw [if_neg (by omega)]
            exact one_clear st hI t r F G w h k c v ⟨h0, h1, h2, h3, h4⟩
end Go.Proofs.Ytgaaghpcnkcjcaa
