/- Layer 5: contract of the reference's Put. -/
import Derived.Test.YtekmdekcncgkfaaC5b
import Derived.StillTailTactics
namespace Go.Proofs.Ytekmdekcncgkfaa
open Go.RowKit
set_option linter.unusedVariables false
theorem infoWrite : (Try.prog.info? 50).map (fun i => (i.zero, i.size, i.bytes)) = some (some (.agg #[.int .i64 0, .int .i64 0]), 2, 16) := by kernel_rfl
theorem infoInt5 : (Try.prog.info? 3).map (fun i => (i.zero, i.size, i.bytes)) = some (some (.int .i64 0), 1, 8) := by kernel_rfl
theorem two_new (w : World) (x y : Value) (T : TypeId) : ∀ j u, [x, y][j]? = some u → (w.alloc (.cells #[x, y] T)).cell? ((⟨w.heap.size, 0, none⟩ : Addr).add j) = some u := by
  intro j u h
  match j, h with
  | 0, h => simp at h; subst h; simp [Addr.add]
  | 1, h => simp at h; subst h; simp [Addr.add]
  | j + 2, h => simp at h
theorem two_at (w : World) (x y : Value) (T : TypeId) (b : Nat) (hb : b = w.heap.size) : ∀ j u, [x, y][j]? = some u → (w.alloc (.cells #[x, y] T)).cell? ((⟨b, 0, none⟩ : Addr).add j) = some u := by
  subst hb
  exact two_new w x y T
theorem calm_drewN (w : World) (n : Nat) : Below w.heap.size w (w.drewN n) := ⟨rfl, rfl, rfl, Nat.le_refl _, fun _ _ => rfl⟩
/-- The reference's Put has answered. -/
def RefPut (w : World) (p : Nat) (F : Nat → Prop) (st' : TS) (x : Int) (e : Ending) (w' : World) : Prop :=
  e = .returned (.int .i64 x) ∧ ∃ F', RefObj w' p st' F' ∧ Chg F w w' ∧ ∀ b, F' b → F b ∨ w.heap.size ≤ b
theorem refPut_bad (st : TS) (p : Nat) (F : Nat → Prop) (w : World) (h : RefObj w p st F) (c v : Int) (hc : c < 0 ∨ 1024 ≤ c) :
    Calls Try.prog 38 #[.pointer (some ⟨p, 0, none⟩), .int .i64 c, .int .i64 v] w (RefPut w p F st 1) := by
  have HO := Lib.hid h
  obtain ⟨lv, sv, hR, _⟩ := h
  have HF : Hid (∀ w, RefAt w p lv sv st → Calls Try.prog 47 #[.pointer (some ⟨p, 0, none⟩), .int .i64 c] w fun e w' => e = .returned (.int .i64 (rowZ st.rows c)) ∧ w = w') := fun w h => refFind_any st p lv sv w h c
  have HR := Lib.hid hR
  have hd : decide (0 ≤ c ∧ c < 1024) = false := by simp; omega
  have HD := Lib.hid hd
  generalize rowZ st.rows c = z at *
  clear hR hc hd
  go_enter Try.func38, Try.ntmps38
  go_wp2_with fail
  refine (right_any c _).mono ?_; rw [HD.out]; rintro e w' ⟨rfl, rfl⟩
  go_wp2_with fail
  refine (HF.out _ HR.out).mono ?_; rintro e w' ⟨rfl, rfl⟩
  go_wp2_with fail
  go_ret
  exact ⟨rfl, F, HO.out, Chg.refl _ _, fun b hb => .inl hb⟩
set_option maxHeartbeats 400000 in
theorem refPut_there (st : TS) (p : Nat) (F : Nat → Prop) (w : World) (h : RefObj w p st F) (c v : Int) (hc0 : 0 ≤ c) (hc1 : c < 1024) (i : Nat) (hr : rowOf st.rows c = some i) :
    Calls Try.prog 38 #[.pointer (some ⟨p, 0, none⟩), .int .i64 c, .int .i64 v] w (RefPut w p F { st with rows := setV st.rows i v } 0) := by
  obtain ⟨lv, sv, hR, hF⟩ := h
  obtain ⟨hi, hc, _⟩ := rowOf_some hr
  have HF : Hid (∀ w, RefAt w p lv sv st → Calls Try.prog 47 #[.pointer (some ⟨p, 0, none⟩), .int .i64 c] w fun e w' => e = .returned (.int .i64 (rowZ st.rows c)) ∧ w = w') := fun w h => refFind_any st p lv sv w h c
  have HZ : Hid (rowZ st.rows c = i) := by show _ = _; unfold rowZ; rw [hr]
  have hd : decide (0 ≤ c ∧ c < 1024) = true := by simp; omega
  have HD := Lib.hid hd
  obtain ⟨g, c', hv, _, hg, hcell, hf, hset⟩ := own_parts hR.2.2.1 (by omega)
  subst hv
  have hx : w.cell? ⟨g, i * 2 + 1, none⟩ = some (.int .i64 (valAt st.rows i)) := (hcell _ (by omega)).trans (rowCells_get _ _ _ (row_get hi)).2
  have hcp : w.cell? ⟨p, 1, none⟩ = some (.slice (some ⟨g, 0, none⟩) st.rows.length c') := by simp [World.cell?, hR.1]
  have hm := own_len hR.2.2.1
  have HS2 : Hid ((w.setCell ⟨g, i * 2 + 1, none⟩ (.int .i64 v)).ownsRow 0 50 2 (.slice (some ⟨g, 0, none⟩) (setV st.rows i v).length c') (setV st.rows i v).length (rowCells (setV st.rows i v))) := by
    have h1 := hset (i * 2 + 1) (.int .i64 v) (by omega)
    rw [rowCells_set st.rows i (cellAt st.rows i) v (by rw [row_get hi]; rfl)] at h1
    show World.ownsRow _ _ _ _ _ _ _
    rw [setV_length]
    exact h1
  have hfg := hf (i * 2 + 1)
  have HRR := Lib.hid hR
  clear hcell hset hf hR hc hr hd
  go_enter Try.func38, Try.ntmps38
  go_wp2_with fail
  refine (right_any c _).mono ?_; rw [HD.out]; rintro e w' ⟨rfl, rfl⟩
  go_wp2_with fail
  refine (HF.out _ HRR.out).mono ?_; rw [HZ.out]; rintro e w' ⟨rfl, rfl⟩
  go_wp2_with fail
  go_ret
  refine ⟨rfl, F, ⟨.slice (some ⟨g, 0, none⟩) (setV st.rows i v).length c', sv, ⟨?_, ?_, HS2.out, HRR.out.2.2.2.1, HRR.out.2.2.2.2.1, ?_⟩, ?_⟩, (Chg.setCell _ _ _).mono ?_, fun b hb => .inl hb⟩
  · rw [heapSet_ne _ _ _ _ (by have := HRR.out.2.2.2.2.1; intro e; apply this; simp [Value.ownBlock, e]), setV_length]
    exact HRR.out.1
  · exact own_chg HRR.out.2.1 (Chg.setCell _ _ _) (fun b hb e => HRR.out.2.2.2.2.2 b hb (by rw [e]; rfl))
  · exact HRR.out.2.2.2.2.2
  · exact hF
  · intro b hb
    rw [hF]
    exact .inr (.inl (by rw [hb]; rfl))
theorem refPut_full (st : TS) (hI : Inv st) (p : Nat) (F : Nat → Prop) (w : World) (h : RefObj w p st F) (c v : Int) (hc0 : 0 ≤ c) (hc1 : c < 1024) (hr : rowOf st.rows c = none) (hfull : ¬ st.rows.length < st.most) :
    Calls Try.prog 38 #[.pointer (some ⟨p, 0, none⟩), .int .i64 c, .int .i64 v] w (RefPut w p F st 2) := by
  have HO := Lib.hid h
  obtain ⟨lv, sv, hR, hF⟩ := h
  have HF : Hid (∀ w, RefAt w p lv sv st → Calls Try.prog 47 #[.pointer (some ⟨p, 0, none⟩), .int .i64 c] w fun e w' => e = .returned (.int .i64 (rowZ st.rows c)) ∧ w = w') := fun w h => refFind_any st p lv sv w h c
  have HZ : Hid (rowZ st.rows c = -1) := by show _ = _; unfold rowZ; rw [hr]
  have hd : decide (0 ≤ c ∧ c < 1024) = true := by simp; omega
  have HD := Lib.hid hd
  obtain ⟨a, cap, rfl⟩ := ownAt_form hR.2.2.1
  have hcp : w.cell? ⟨p, 1, none⟩ = some (.slice a st.rows.length cap) := by simp [World.cell?, hR.1]
  have hcm : w.cell? ⟨p, 0, none⟩ = some (.int .i64 st.most) := by simp [World.cell?, hR.1]
  have HRR := Lib.hid hR
  have hge : (st.most : Int) ≤ st.rows.length := by omega
  clear hR hr hd
  go_enter Try.func38, Try.ntmps38
  go_wp2_with fail
  refine (right_any c _).mono ?_; rw [HD.out]; rintro e w' ⟨rfl, rfl⟩
  go_wp2_with fail
  refine (HF.out _ HRR.out).mono ?_; rw [HZ.out]; rintro e w' ⟨rfl, rfl⟩
  go_wp2_with fail
  go_quiet (fail)
  go_wp2_with fail
  go_ret
  exact ⟨rfl, F, HO.out.calm (calm_drewN _ _), Chg.calm _ (calm_drewN _ _), fun b hb => .inl hb⟩
set_option maxHeartbeats 1000000 in
theorem refPut_new (st : TS) (hI : Inv st) (p : Nat) (F : Nat → Prop) (w : World) (h : RefObj w p st F) (c v : Int) (hc0 : 0 ≤ c) (hc1 : c < 1024) (hr : rowOf st.rows c = none) (hroom : st.rows.length < st.most) :
    Calls Try.prog 38 #[.pointer (some ⟨p, 0, none⟩), .int .i64 c, .int .i64 v] w (RefPut w p F { st with sl := st.sl.set (freeAt st.sl (numT st.most) (hashT st.most c)) st.rows.length, rows := st.rows ++ [(c, v)] } 0) := by
  obtain ⟨i0, hi, hI0, hI1, hI2⟩ := info_parts infoWrite
  obtain ⟨lv, sv, hR, hF⟩ := h
  have HF : Hid (∀ w, RefAt w p lv sv st → Calls Try.prog 47 #[.pointer (some ⟨p, 0, none⟩), .int .i64 c] w fun e w' => e = .returned (.int .i64 (rowZ st.rows c)) ∧ w = w') := fun w h => refFind_any st p lv sv w h c
  have HH : Hid (∀ w, RefAt w p lv sv st → Calls Try.prog 48 #[.pointer (some ⟨p, 0, none⟩), .int .i64 c] w fun e w' => e = .returned (.int .i64 (hashT st.most c)) ∧ w = w') := fun w h => first_any st hI p lv sv w h c
  have HZ : Hid (rowZ st.rows c = -1) := by show _ = _; unfold rowZ; rw [hr]
  have hd : decide (0 ≤ c ∧ c < 1024) = true := by simp; omega
  have HD := Lib.hid hd
  have hn := numT_pos st.most
  have hhl := hashT_lt st.most c
  have HI := Lib.hid hI
  obtain ⟨a, cap, rfl⟩ := ownAt_form hR.2.2.1
  obtain ⟨gs, cs, rfl, _, hgs, hcellS, hfS, hsetS⟩ := own_parts hR.2.1 (by omega)
  have hcp : w.cell? ⟨p, 1, none⟩ = some (.slice a st.rows.length cap) := by simp [World.cell?, hR.1]
  have hcm : w.cell? ⟨p, 0, none⟩ = some (.int .i64 st.most) := by simp [World.cell?, hR.1]
  have hcq : w.cell? ⟨p, 2, none⟩ = some (.slice (some ⟨gs, 0, none⟩) (numT st.most) cs) := by simp [World.cell?, hR.1]
  have hfp : ∀ o, w.frozen? ⟨p, o, none⟩ = false := fun o => by simp [World.frozen?, hR.1]
  have HRR := Lib.hid hR
  have hlt : (st.rows.length : Int) < st.most := by omega
  have h24 := hI.m2
  have HS := Lib.hid hsetS
  have HCS := Lib.hid hcellS
  have hfs := hfS
  generalize hN : numT st.most = N at *
  generalize hK : hashT st.most c = k0 at *
  have HNN := Lib.hid hN
  have HKK := Lib.hid hK
  clear hR hr hd hI hsetS hcellS hfS hN hK
  go_enter Try.func38, Try.ntmps38
  go_wp2_with fail
  refine (right_any c _).mono ?_; rw [HD.out]; rintro e w' ⟨rfl, rfl⟩
  go_wp2_with fail
  refine (HF.out _ HRR.out).mono ?_; rw [HZ.out]; rintro e w' ⟨rfl, rfl⟩
  go_wp2_with fail
  go_quiet (fail)
  go_wp2_with fail
  refine (HH.out _ (HRR.out.calm (calm_drewN _ _))).mono ?_; rintro e w' ⟨rfl, rfl⟩
  go_wp2_with fail
  generalize hwd : w.drewN nq = wd
  have hcell : ∀ a, wd.cell? a = w.cell? a := fun a => by rw [← hwd]; rfl
  have hfroz : ∀ a, wd.frozen? a = w.frozen? a := fun a => by rw [← hwd]; rfl
  have HRD : Hid (RefAt wd p (.slice a st.rows.length cap) (.slice (some ⟨gs, 0, none⟩) N cs) st) := by rw [← hwd]; exact HRR.out.calm (calm_drewN _ _)
  have HWD : Hid (Below w.heap.size w wd) := by rw [← hwd]; exact calm_drewN _ _
  have hzd : wd.heap.size = w.heap.size := by rw [← hwd]; rfl
  have HZD := Lib.hid hzd
  clear hwd hzd
  go_loop [9] (fun i => ∃ k : Nat, k < N ∧ i = .int .i64 k ∧ Hid (freeAt st.sl N k = freeAt st.sl N k0)) (fun i => distF st.sl N (intOf i).toNat)
  case atStart => exact ⟨k0, hhl, rfl, rfl⟩
  case round =>
    obtain ⟨k, hk, rfl, HK⟩ := hrel
    have hsl : st.sl.length = N := by rw [HI.out.len]; exact HNN.out
    have hsk : w.cell? ⟨gs, k, none⟩ = some (.int .i64 (slotAt st.sl k)) := by
      rw [HCS.out k (by omega), List.getElem?_map, List.getElem?_eq_getElem (by omega)]
      unfold slotAt
      rw [List.getD_eq_getElem?_getD, List.getElem?_eq_getElem (by omega)]; rfl
    have hfree := HI.out.free k (by rw [HNN.out]; exact hk)
    rw [HNN.out] at hfree
    by_cases hs : slotAt st.sl k = -1
    · have HE := Lib.hid (distF_here hk hs)
      rw [hs] at hsk
      clear hs hfree hsl
      have hpg : ¬ (p = gs) := fun e => HRD.out.2.2.2.1 (by rw [e]; rfl)
      have hgp : ¬ (gs = p) := fun e => hpg e.symm
      go_wp2_with fail
      go_still_tail 11, (by kernel_rfl)
      change wpList _ _ _ _ _ wd.drew
      have HW1 : Hid (Chg (fun b => b = gs) wd (wd.setCell ⟨gs, k, none⟩ (.int .i64 st.rows.length)).drew) := (Chg.setCell wd ⟨gs, k, none⟩ (.int .i64 st.rows.length)).drew
      have hown : (wd.setCell ⟨gs, k, none⟩ (.int .i64 st.rows.length)).drew.ownsRow 0 50 2 (.slice a st.rows.length cap) st.rows.length (rowCells st.rows) :=
        own_chg HRD.out.2.2.1 HW1.out (fun b hb e => by subst e; exact HRD.out.2.2.2.2.2 _ rfl hb)
      go_wp2_with (at_builtin; refine wpList_append_own_at _ rfl (.tmp 74) (.tmp 78) 32 rfl 0 50 i0 (.agg #[.int .i64 0, .int .i64 0]) 2 16 Try.underlying32 hi hI0 hI1 hI2 rfl (by decide) _ _ _ rfl (hown.alloc _) ⟨wd.heap.size, 0, none⟩ 1 1 [.int .i64 c, .int .i64 v] rfl rfl ?c1 ?c2 ?c3 ?c4 ?c5 ?_)
      case c1 => exact two_at (wd.setCell ⟨gs, k, none⟩ (.int .i64 st.rows.length)).drew _ _ _ _ (by simp [World.setCell])
      case c2 => intro u hu; simp at hu; rcases hu with rfl | rfl <;> rfl
      case c3 => unfold maxLen; omega
      case c4 => omega
      case c5 => omega
      · intro v' w2 hown' hgrow _ hwhere
        obtain ⟨a', c', rfl⟩ := ownAt_form hown'
        have hgs2 : gs < wd.heap.size := by rw [HZD.out]; exact hgs
        have hp2 : p < wd.heap.size := heap_lt HRD.out.1
        have hlvp := HRD.out.2.2.2.2.1
        have hslv := HRD.out.2.2.2.2.2
        have HP : Hid (w2.heap[p]? = some (.cells #[.int .i64 st.most, .slice a st.rows.length cap, .slice (some ⟨gs, 0, none⟩) N cs] 75)) := by
          show _ = _
          rw [hgrow.block p (by simp [World.setCell]; omega) (fun e => hlvp e.symm)]
          refine heapAlloc_old ?_ _
          exact (heapSet_ne _ _ _ _ hpg).trans HRD.out.1
        have HG : Hid (Chg (fun b => (Value.slice a st.rows.length cap).ownBlock = some b) (wd.setCell ⟨gs, k, none⟩ (.int .i64 st.rows.length)).drew w2) := (Chg.alloc _ _ _).grow hgrow (fun b hb _ => hb)
        have hcp2 : w2.cell? ⟨p, 1, none⟩ = some (.slice a st.rows.length cap) := by simp [World.cell?, HP.out]
        have hfp2 : ∀ o, w2.frozen? ⟨p, o, none⟩ = false := fun o => by simp [World.frozen?, HP.out]
        have HW := Lib.hid hwhere
        have HO := Lib.hid hown'
        clear hown hgrow hown' hwhere
        have hlv2 : (Value.slice a' (st.rows.length + 1) c').ownBlock ≠ some p := by
          rcases HW.out with e | e
          · rw [e]; exact hlvp
          · rw [e]; intro e2; simp at e2; omega
        go_wp2_with fail
        go_ret
        refine ⟨rfl, Foot p (.slice a' (st.rows.length + 1) c') (.slice (some ⟨gs, 0, none⟩) N cs), ⟨.slice a' (st.rows.length + 1) c', .slice (some ⟨gs, 0, none⟩) N cs, ⟨?_, ?_, ?_, ?_, ?_, ?_⟩, fun b => Iff.rfl⟩, ?_, ?_⟩
        · exact (heapSet_eq _ _ _ _ _ _ _ HP.out).trans (by simp)
        · have hK : freeAt st.sl N k0 = k := HK.out.symm.trans HE.out.2
          obtain ⟨g1, c1, hv1, _, _, _, _, hset⟩ := own_parts HRD.out.2.1 (by rw [HNN.out]; omega)
          rw [HNN.out] at hv1 hset
          obtain ⟨e1, _⟩ := slice_inj hv1
          obtain rfl : gs = g1 := by simpa using e1
          have h1 := hset k (.int .i64 st.rows.length) (by omega)
          have h2 : w2.ownsRow 0 3 1 (.slice (some ⟨gs, 0, none⟩) N cs) N ((st.sl.map (Value.int .i64)).set k (.int .i64 st.rows.length)) :=
            own_chg (w := (wd.setCell ⟨gs, k, none⟩ (.int .i64 st.rows.length)).drew) h1 HG.out (fun b hb e => hslv b hb e)
          have h3 := own_chg h2 (Chg.setCell w2 ⟨p, 1, none⟩ (.slice a' (st.rows.length + 1) c')) (fun b hb e => HRD.out.2.2.2.1 (by rw [hb, e]))
          show World.ownsRow _ _ _ _ _ (numT st.most) ((st.sl.set (freeAt st.sl N k0) (st.rows.length : Int)).map (Value.int .i64))
          rw [hK, HNN.out, List.map_set]
          exact h3
        · have h3 := own_chg HO.out (Chg.setCell w2 ⟨p, 1, none⟩ (.slice a' (st.rows.length + 1) c')) (fun b hb e => hlv2 (by rw [hb, e]))
          show World.ownsRow _ _ _ _ _ (st.rows ++ [(c, v)]).length (rowCells (st.rows ++ [(c, v)]))
          rw [rowCells_app, List.length_append]
          exact h3
        · exact HRD.out.2.2.2.1
        · exact hlv2
        · intro b hb e
          rcases HW.out with h1 | h1
          · exact hslv b hb (h1.symm.trans e)
          · rw [h1] at e
            simp [Value.ownBlock] at hb e
            omega
        · have hFp : F p := (hF p).2 (.inl rfl)
          have hFg : F gs := (hF gs).2 (.inr (.inr rfl))
          have h1 : Chg F w (wd.setCell ⟨gs, k, none⟩ (.int .i64 st.rows.length)).drew := ((Chg.calm F HWD.out).set ⟨gs, k, none⟩ _ (.inr hFg)).drew
          have h2 : Chg F w w2 := h1.trans HG.out (fun _ h => h) (fun b _ hb => (hF b).2 (.inr (.inl hb)))
          exact h2.set ⟨p, 1, none⟩ _ (.inr hFp)
        · intro b hb
          rcases hb with rfl | hb | hb
          · exact .inl ((hF _).2 (.inl rfl))
          · rcases HW.out with h1 | h1
            · exact .inl ((hF _).2 (.inr (.inl (h1.symm.trans hb))))
            · right
              rw [h1] at hb
              have := HZD.out
              simp at hb
              omega
          · exact .inl ((hF _).2 (.inr (.inr hb)))
    · have hrng := (HI.out.rng k (by rw [HNN.out]; exact hk)).resolve_left hs
      have HE := Lib.hid (distF_step hk hfree hs)
      obtain ⟨x, HX⟩ : ∃ x, Hid (slotAt st.sl k = x) := ⟨_, rfl⟩
      rw [HX.out] at hsk hrng
      obtain ⟨hx0, hx1⟩ := hrng
      have hd0 : (0 : Int) < N := by omega
      clear hs hfree hsl
      go_wp2_with fail
      go_round
      case rel => exact ⟨(k + 1) % N, Nat.mod_lt _ (by omega), by go_num, HE.out.2.symm.trans HK.out⟩
      case measure =>
        have e : ((k : Int) + 1) % N = (((k + 1) % N : Nat) : Int) := by simp
        rw [e]
        simp only [intOf, Int.toNat_natCast]
        have := HE.out.1
        omega
end Go.Proofs.Ytekmdekcncgkfaa
