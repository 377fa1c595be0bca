/- Layer 3: Swap, of both. -/
import Derived.Test.YtojkeahffabifaaC3c
import Derived.Test.YtojkeahffabifaaC3g
namespace Go.Proofs.Ytojkeahffabifaa
open Go.RowKit
set_option linter.unusedVariables false
def swAcc (th k i j old v : Int) (yes : Bool) : Acc := ⟨th, 3, k, i, j, old, v, yes⟩
theorem wordOf_sw0 (l : List Acc) (th k i j old v : Int) : wordOf (l ++ [swAcc th k i j old v false]) = wordOf l := by
  funext a b c
  rw [wordOf_snoc]
  simp [hit, swAcc]
theorem wordOf_sw1 (l : List Acc) (th k i j old v : Int) : wordOf (l ++ [swAcc th k i j old v true]) = upd (wordOf l) k i j v := by
  funext a b c
  rw [wordOf_snoc]
  unfold upd hit swAcc
  by_cases h : a = k ∧ b = i ∧ c = j
  · obtain ⟨rfl, rfl, rfl⟩ := h; simp
  · rw [if_neg h, if_neg]
    simp only [Bool.and_eq_true, beq_iff_eq]
    rintro ⟨⟨⟨h1, h2⟩, h3⟩, _⟩
    exact h ⟨h1.symm, h2.symm, h3.symm⟩
set_option maxHeartbeats 2000000 in
set_option maxRecDepth 100000 in
theorem swap_yes (p ring cells : Nat) (l : List Acc) (hlen : l.length ≤ 3000000000000) (th k i j old v : Int) (hV : wordOf l k i j = old) (ha : isA ring cells k i j) :
    Lifts Try.prog 39 #[.pointer (some ⟨p, 0, none⟩), .int .i64 th, .agg #[.int .i64 k, .int .i64 i, .int .i64 j], .int .i64 old, .int .i64 v] (MemH p ring cells l) (MemH p ring cells (l ++ [swAcc th k i j old v true])) (.returned (.tuple #[.bool true, .int .i64 0])) := by
  rintro w F ⟨hv, sv, cv, lv, h1, h2, h3, h4⟩
  obtain ⟨i0, hi, hI0, hI1, hI2⟩ := info_parts infoAcc
  obtain ⟨la, lc, rfl⟩ := ownAt_form h2
  have H1 := Lib.hid h1
  have H2 := Lib.hid h2
  have H3 := Lib.hid h3
  have H4 := Lib.hid h4
  have HA := Lib.hid ha
  clear h1 h2 h3 h4 ha
  go_enter Try.func39, Try.ntmps39
  go_wp2_with fail
  have hb0 : Below w.heap.size w (w.alloc (.cells #[.int .i64 k, .int .i64 i, .int .i64 j] 59)) := (Below.refl _ _).alloc (Nat.le_refl _) _
  refine (word_in _ p ring cells (wordOf l) hv sv cv _ (H1.out.calm hb0) k i j HA.out).mono ?_
  rintro e w1 ⟨⟨g, o, rfl, hpl⟩, hb1⟩
  have hb : Hid (Below w.heap.size w w1) := hb0.trans (hb1.mono (by simp))
  have hM := H1.out.calm hb.out
  obtain ⟨hcell, hfz, hset⟩ := place_facts hM H3.out HA.out hpl
  rw [hV] at hcell
  have hgb := hpl.blk
  have hM2 := hset v
  obtain ⟨p0, _, _, _, p4, fz⟩ := mem_cells hM2.1
  have hbx : w1.heap[w.heap.size]? = some (.cells #[.int .i64 k, .int .i64 i, .int .i64 j] 59) := (hb1.block _ (by simp)).trans (heapAlloc w _)
  have hgl : g < w.heap.size := by
    rcases hgb with rfl | h | h | h
    · exact heap_lt H1.out.1
    · exact (H1.out.2.1.lt g h).2
    · exact (H1.out.2.2.1.lt g h).2
    · exact (H1.out.2.2.2.lt g h).2
  have hlg : (Value.slice la l.length lc).ownBlock ≠ some g := by
    rcases hgb with rfl | h | h | h
    · exact H3.out.lp
    · exact H3.out.hl g h
    · exact H3.out.sl g h
    · exact H3.out.cl g h
  have hbx2 : (w1.setCell ⟨g, o, none⟩ (.int .i64 v)).heap[w.heap.size]? = some (.cells #[.int .i64 k, .int .i64 i, .int .i64 j] 59) := (heapSet_ne _ _ _ _ (by show w.heap.size ≠ g; omega)).trans hbx
  have q0 : (w1.setCell ⟨g, o, none⟩ (.int .i64 v)).cell? ⟨w.heap.size, 0, none⟩ = some (.int .i64 k) := by simp [World.cell?, hbx2]
  have q1 : (w1.setCell ⟨g, o, none⟩ (.int .i64 v)).cell? ⟨w.heap.size, 1, none⟩ = some (.int .i64 i) := by simp [World.cell?, hbx2]
  have q2 : (w1.setCell ⟨g, o, none⟩ (.int .i64 v)).cell? ⟨w.heap.size, 2, none⟩ = some (.int .i64 j) := by simp [World.cell?, hbx2]
  have hC1 : Hid (Chg (fun b => b = g) w1 (w1.setCell ⟨g, o, none⟩ (.int .i64 v))) := Chg.setCell w1 ⟨g, o, none⟩ _
  have HG : Hid ((w1.setCell ⟨g, o, none⟩ (.int .i64 v)).ownsRow 0 117 8 (.slice la l.length lc) l.length (accCells l)) := own_chg (own_calm H2.out hb.out) hC1.out (fun b hb e => hlg (by rw [hb, e]))
  have HM : Hid (MemW (w1.setCell ⟨g, o, none⟩ (.int .i64 v)) p ring cells (wordOf (l ++ [swAcc th k i j old v true])) hv sv cv (.slice la l.length lc)) := by
    show MemW _ _ _ _ _ _ _ _ _
    rw [wordOf_sw1]; exact hM2
  have HFG : Hid (F g) := (H4.out g).2 (.inl hgb)
  have hpl := heap_lt HM.out.1
  have HCF : Hid (Chg F w (w1.setCell ⟨g, o, none⟩ (.int .i64 v))) := (Chg.calm F hb.out).trans hC1.out (fun _ h => h) (fun b _ e => by subst e; exact HFG.out)
  clear hb0 hb1 hM hbx hM2 hset hgb hgl hlg hbx2 p0 hC1
  go_wp2_with fail
  generalize w1.setCell ⟨g, o, none⟩ (.int .i64 v) = wg at *
  go_region_law ((refine stepW_lies (by rfl) (.tmp 32) (.tmp 39) 81 (by rfl) 0 117 i0 (.agg #[.int .i64 0, .int .i64 0, .int .i64 0, .int .i64 0, .int .i64 0, .int .i64 0, .int .i64 0, .bool false]) 8 64 Try.underlying81 hi hI0 hI1 hI2 (by rfl) (by decide) _ _ _ (by rfl) (World.ownsRow.alloc (w := wg.drew) HG.out _) ⟨wg.heap.size, 0, none⟩ 1 1 (accCell (swAcc th k i j old v true)) (by rfl) (by rfl) (eight_at wg.drew _ _ _ _ _ _ _ _ _ _ rfl) (acc_one _) (by decide) (by unfold maxLen; omega) (by omega) (Nat.zero_le _) _ rfl ?_; intro g2 c2 w2 hown2 hgrow hat hlt; have HP2 : Hid (w2.heap[p]? = some (.cells #[.int .i64 (wordOf (l ++ [swAcc th k i j old v true]) 1 0 0), hv, sv, cv, .slice la l.length lc] 89)) := (hgrow.block p (by simp; exact Nat.lt_succ_of_lt hpl) (fun e => H3.out.lp e.symm)).trans (heapAlloc_old (w := wg.drew) HM.out.1 _); obtain ⟨_, _, _, _, p4', fz'⟩ := mem_cells HP2.out))
  all_goals
    have hC : Chg (fun b => (Value.slice la l.length lc).ownBlock = some b) wg w2 := (Chg.alloc _ _ _).drew.grow hgrow (fun b hb _ => hb)
    have hW : (Value.slice (some ⟨g2, 0, none⟩) (l.length + 1) c2).ownBlock = (Value.slice la l.length lc).ownBlock ∨ ∃ b, (Value.slice (some ⟨g2, 0, none⟩) (l.length + 1) c2).ownBlock = some b ∧ wg.heap.size ≤ b := by
      rcases hat with e | e
      · exact .inl (by rw [e]; rfl)
      · exact .inr ⟨g2, rfl, by rw [e]; simp⟩
    obtain ⟨k1, k2, k3⟩ := mem_logged HM.out H3.out H4.out hown2 hC hW
    have K3 := Lib.hid k3
    clear k1 k2 k3 hC hW hown2 hgrow hat hlt p4 fz q0 q1 q2 p4' fz' hfz hcell HP2
    go_wp2_with fail
    go_ret2
    exact ⟨rfl, K3.out.preC HCF.out⟩
set_option maxHeartbeats 2000000 in
set_option maxRecDepth 100000 in
theorem swap_no (p ring cells : Nat) (l : List Acc) (hlen : l.length ≤ 3000000000000) (th k i j old v : Int) (u : Int) (hV : wordOf l k i j = u) (hne : u ≠ old) (ha : isA ring cells k i j) :
    Lifts Try.prog 39 #[.pointer (some ⟨p, 0, none⟩), .int .i64 th, .agg #[.int .i64 k, .int .i64 i, .int .i64 j], .int .i64 old, .int .i64 v] (MemH p ring cells l) (MemH p ring cells (l ++ [swAcc th k i j old v false])) (.returned (.tuple #[.bool false, .int .i64 0])) := by
  rintro w F ⟨hv, sv, cv, lv, h1, h2, h3, h4⟩
  obtain ⟨i0, hi, hI0, hI1, hI2⟩ := info_parts infoAcc
  obtain ⟨la, lc, rfl⟩ := ownAt_form h2
  have H1 := Lib.hid h1
  have H2 := Lib.hid h2
  have H3 := Lib.hid h3
  have H4 := Lib.hid h4
  have HA := Lib.hid ha
  clear h1 h2 h3 h4 ha
  go_enter Try.func39, Try.ntmps39
  go_wp2_with fail
  have hb0 : Below w.heap.size w (w.alloc (.cells #[.int .i64 k, .int .i64 i, .int .i64 j] 59)) := (Below.refl _ _).alloc (Nat.le_refl _) _
  refine (word_in _ p ring cells (wordOf l) hv sv cv _ (H1.out.calm hb0) k i j HA.out).mono ?_
  rintro e w1 ⟨⟨g, o, rfl, hpl⟩, hb1⟩
  have hb : Hid (Below w.heap.size w w1) := hb0.trans (hb1.mono (by simp))
  have hM := H1.out.calm hb.out
  obtain ⟨hcell, hfz, hset⟩ := place_facts hM H3.out HA.out hpl
  rw [hV] at hcell
  have hgb := hpl.blk
  have hM2 := hM
  have e9 : (u == old) = false := by simp [hne]
  obtain ⟨p0, _, _, _, p4, fz⟩ := mem_cells hM2.1
  have hbx : w1.heap[w.heap.size]? = some (.cells #[.int .i64 k, .int .i64 i, .int .i64 j] 59) := (hb1.block _ (by simp)).trans (heapAlloc w _)
  have hgl : g < w.heap.size := by
    rcases hgb with rfl | h | h | h
    · exact heap_lt H1.out.1
    · exact (H1.out.2.1.lt g h).2
    · exact (H1.out.2.2.1.lt g h).2
    · exact (H1.out.2.2.2.lt g h).2
  have hlg : (Value.slice la l.length lc).ownBlock ≠ some g := by
    rcases hgb with rfl | h | h | h
    · exact H3.out.lp
    · exact H3.out.hl g h
    · exact H3.out.sl g h
    · exact H3.out.cl g h
  have hbx2 : w1.heap[w.heap.size]? = some (.cells #[.int .i64 k, .int .i64 i, .int .i64 j] 59) := hbx
  have q0 : w1.cell? ⟨w.heap.size, 0, none⟩ = some (.int .i64 k) := by simp [World.cell?, hbx2]
  have q1 : w1.cell? ⟨w.heap.size, 1, none⟩ = some (.int .i64 i) := by simp [World.cell?, hbx2]
  have q2 : w1.cell? ⟨w.heap.size, 2, none⟩ = some (.int .i64 j) := by simp [World.cell?, hbx2]
  have hC1 : Hid (Chg (fun b => b = g) w1 w1) := Chg.refl _ w1
  have HG : Hid (w1.ownsRow 0 117 8 (.slice la l.length lc) l.length (accCells l)) := own_chg (own_calm H2.out hb.out) hC1.out (fun b hb e => hlg (by rw [hb, e]))
  have HM : Hid (MemW w1 p ring cells (wordOf (l ++ [swAcc th k i j old v false])) hv sv cv (.slice la l.length lc)) := by
    show MemW _ _ _ _ _ _ _ _ _
    rw [wordOf_sw0]; exact hM2
  have HFG : Hid (F g) := (H4.out g).2 (.inl hgb)
  have hpl := heap_lt HM.out.1
  have HCF : Hid (Chg F w w1) := (Chg.calm F hb.out).trans hC1.out (fun _ h => h) (fun b _ e => by subst e; exact HFG.out)
  clear hb0 hb1 hM hbx hM2 hset hgb hgl hlg hbx2 p0 hC1
  go_wp2_with fail
  generalize w1 = wg at *
  go_region_law ((refine stepW_lies (by rfl) (.tmp 32) (.tmp 39) 81 (by rfl) 0 117 i0 (.agg #[.int .i64 0, .int .i64 0, .int .i64 0, .int .i64 0, .int .i64 0, .int .i64 0, .int .i64 0, .bool false]) 8 64 Try.underlying81 hi hI0 hI1 hI2 (by rfl) (by decide) _ _ _ (by rfl) (World.ownsRow.alloc (w := wg.drew) HG.out _) ⟨wg.heap.size, 0, none⟩ 1 1 (accCell (swAcc th k i j old v false)) (by rfl) (by rfl) (eight_at wg.drew _ _ _ _ _ _ _ _ _ _ rfl) (acc_one _) (by decide) (by unfold maxLen; omega) (by omega) (Nat.zero_le _) _ rfl ?_; intro g2 c2 w2 hown2 hgrow hat hlt; have HP2 : Hid (w2.heap[p]? = some (.cells #[.int .i64 (wordOf (l ++ [swAcc th k i j old v false]) 1 0 0), hv, sv, cv, .slice la l.length lc] 89)) := (hgrow.block p (by simp; exact Nat.lt_succ_of_lt hpl) (fun e => H3.out.lp e.symm)).trans (heapAlloc_old (w := wg.drew) HM.out.1 _); obtain ⟨_, _, _, _, p4', fz'⟩ := mem_cells HP2.out))
  all_goals
    have hC : Chg (fun b => (Value.slice la l.length lc).ownBlock = some b) wg w2 := (Chg.alloc _ _ _).drew.grow hgrow (fun b hb _ => hb)
    have hW : (Value.slice (some ⟨g2, 0, none⟩) (l.length + 1) c2).ownBlock = (Value.slice la l.length lc).ownBlock ∨ ∃ b, (Value.slice (some ⟨g2, 0, none⟩) (l.length + 1) c2).ownBlock = some b ∧ wg.heap.size ≤ b := by
      rcases hat with e | e
      · exact .inl (by rw [e]; rfl)
      · exact .inr ⟨g2, rfl, by rw [e]; simp⟩
    obtain ⟨k1, k2, k3⟩ := mem_logged HM.out H3.out H4.out hown2 hC hW
    have K3 := Lib.hid k3
    clear k1 k2 k3 hC hW hown2 hgrow hat hlt p4 fz q0 q1 q2 p4' fz' hfz hcell HP2
    go_wp2_with fail
    go_ret2
    exact ⟨rfl, K3.out.preC HCF.out⟩
set_option maxHeartbeats 2000000 in
set_option maxRecDepth 100000 in
theorem rswap_yes (r ring cells : Nat) (l : List Acc) (hlen : l.length ≤ 3000000000000) (th k i j old v : Int) (hV : wordOf l k i j = old) (ha : isA ring cells k i j) :
    Lifts Try.prog 46 #[.pointer (some ⟨r, 0, none⟩), .int .i64 th, .agg #[.int .i64 k, .int .i64 i, .int .i64 j], .int .i64 old, .int .i64 v] (RMemH r ring cells l) (RMemH r ring cells (l ++ [swAcc th k i j old v true])) (.returned (.tuple #[.bool true, .int .i64 0])) := by
  rintro w F h
  obtain ⟨i0, hi, hI0, hI1, hI2⟩ := info_parts infoAcc
  have hb0 : Below w.heap.size w (w.alloc (.cells #[.int .i64 k, .int .i64 i, .int .i64 j] 59)) := (Below.refl _ _).alloc (Nat.le_refl _) _
  have HIS := Lib.hid (is_any r ring cells l k i j _ F ((RMemH.good r ring cells l).calm h hb0))
  have HD : Hid (decide (isA ring cells k i j) = true) := decide_eq_true ha
  rw [HD.out] at HIS
  have HWD := Lib.hid (rword_any r ring cells l hlen k i j)
  have HO := Lib.hid h
  obtain ⟨lv, h1, h2, h3, h4⟩ := h
  obtain ⟨la, lc, rfl⟩ := ownAt_form h2
  have H1 := Lib.hid h1
  have H2 := Lib.hid h2
  have H3 := Lib.hid h3
  have H4 := Lib.hid h4
  have hrl := heap_lt h1
  rw [hV] at HWD
  clear h1 h2 h3 h4 ha hb0 hV
  go_enter Try.func46, Try.ntmps46
  go_wp2_with fail
  refine HIS.out.mono ?_
  rintro e w1 ⟨rfl, hb1⟩
  have hbx : w1.heap[w.heap.size]? = some (.cells #[.int .i64 k, .int .i64 i, .int .i64 j] 59) := (hb1.block _ (by simp)).trans (heapAlloc w _)
  have HB1 : Hid (Below w.heap.size w w1) := ((Below.refl _ _).alloc (Nat.le_refl _) _).trans (hb1.mono (by simp))
  have hbl := heap_lt hbx
  have HBX := Lib.hid hbx
  obtain ⟨q0, q1, q2, _⟩ := three_cells hbx
  clear hb1 hbx HIS
  go_wp2_with fail
  refine (HWD.out _ F ((RMemH.good r ring cells l).calm HO.out HB1.out)).mono ?_
  rintro e w3 ⟨rfl, hb3⟩
  have HBG : Hid (Below w.heap.size w w3) := HB1.out.trans (hb3.mono (by omega))
  have HM : Hid (w3.heap[r]? = _) := (HBG.out.block r hrl).trans H1.out
  have HG := Lib.hid (own_calm H2.out HBG.out)
  obtain ⟨_, _, p4, fz⟩ := three_cells HM.out
  obtain ⟨q0', q1', q2', _⟩ := three_cells ((hb3.block w.heap.size hbl).trans HBX.out)
  clear q0 q1 q2 hb3
  have q0 := q0'
  have q1 := q1'
  have q2 := q2'
  clear q0' q1' q2'
  have hpl := heap_lt HM.out
  go_wp2_with fail
  go_region_law (((refine stepW_lies (by rfl) (.tmp 26) (.tmp 35) 81 (by rfl) 0 117 i0 (.agg #[.int .i64 0, .int .i64 0, .int .i64 0, .int .i64 0, .int .i64 0, .int .i64 0, .int .i64 0, .bool false]) 8 64 Try.underlying81 hi hI0 hI1 hI2 (by rfl) (by decide) _ _ _ (by rfl) (World.ownsRow.alloc (w := w3.drew) HG.out _) ⟨w3.heap.size, 0, none⟩ 1 1 (accCell (swAcc th k i j old v true)) (by rfl) (by rfl) (eight_at w3.drew _ _ _ _ _ _ _ _ _ _ rfl) (acc_one _) (by decide) (by unfold maxLen; omega) (by omega) (Nat.zero_le _) _ rfl ?_; intro g2 c2 w2 hown2 hgrow hat hlt; have HP2 : Hid (w2.heap[r]? = some (.cells #[.int .i64 cells, .int .i64 ring, .slice la l.length lc] 84)) := (hgrow.block r (by simp; exact Nat.lt_succ_of_lt hpl) (fun e => H3.out e.symm)).trans (heapAlloc_old (w := w3.drew) HM.out _); obtain ⟨_, _, p4', fz'⟩ := three_cells HP2.out)))
  all_goals
    have hC : Chg (fun b => (Value.slice la l.length lc).ownBlock = some b) w3 w2 := (Chg.alloc _ _ _).drew.grow hgrow (fun b hb _ => hb)
    have hW : (Value.slice (some ⟨g2, 0, none⟩) (l.length + 1) c2).ownBlock = (Value.slice la l.length lc).ownBlock ∨ ∃ b, (Value.slice (some ⟨g2, 0, none⟩) (l.length + 1) c2).ownBlock = some b ∧ w3.heap.size ≤ b := by
      rcases hat with e | e
      · exact .inl (by rw [e]; rfl)
      · exact .inr ⟨g2, rfl, by rw [e]; simp⟩
    have K3 := Lib.hid (rmem_logged (ring := ring) HM.out H3.out H4.out hown2 hC hW)
    clear hC hW hown2 hgrow hat hlt p4 fz q0 q1 q2 p4' fz' HP2
    go_wp2_with fail
    go_ret2
    exact ⟨rfl, K3.out.pre HBG.out⟩
set_option maxHeartbeats 2000000 in
set_option maxRecDepth 100000 in
theorem rswap_no (r ring cells : Nat) (l : List Acc) (hlen : l.length ≤ 3000000000000) (th k i j old v u : Int) (hV : wordOf l k i j = u) (hne : u ≠ old) (ha : isA ring cells k i j) :
    Lifts Try.prog 46 #[.pointer (some ⟨r, 0, none⟩), .int .i64 th, .agg #[.int .i64 k, .int .i64 i, .int .i64 j], .int .i64 old, .int .i64 v] (RMemH r ring cells l) (RMemH r ring cells (l ++ [swAcc th k i j old v false])) (.returned (.tuple #[.bool false, .int .i64 0])) := by
  rintro w F h
  obtain ⟨i0, hi, hI0, hI1, hI2⟩ := info_parts infoAcc
  have hb0 : Below w.heap.size w (w.alloc (.cells #[.int .i64 k, .int .i64 i, .int .i64 j] 59)) := (Below.refl _ _).alloc (Nat.le_refl _) _
  have HIS := Lib.hid (is_any r ring cells l k i j _ F ((RMemH.good r ring cells l).calm h hb0))
  have HD : Hid (decide (isA ring cells k i j) = true) := decide_eq_true ha
  rw [HD.out] at HIS
  have HWD := Lib.hid (rword_any r ring cells l hlen k i j)
  have HO := Lib.hid h
  obtain ⟨lv, h1, h2, h3, h4⟩ := h
  obtain ⟨la, lc, rfl⟩ := ownAt_form h2
  have H1 := Lib.hid h1
  have H2 := Lib.hid h2
  have H3 := Lib.hid h3
  have H4 := Lib.hid h4
  have hrl := heap_lt h1
  rw [hV] at HWD
  clear h1 h2 h3 h4 ha hb0 hV
  have e9 : (u == old) = false := by simp [hne]
  clear hne
  go_enter Try.func46, Try.ntmps46
  go_wp2_with fail
  refine HIS.out.mono ?_
  rintro e w1 ⟨rfl, hb1⟩
  have hbx : w1.heap[w.heap.size]? = some (.cells #[.int .i64 k, .int .i64 i, .int .i64 j] 59) := (hb1.block _ (by simp)).trans (heapAlloc w _)
  have HB1 : Hid (Below w.heap.size w w1) := ((Below.refl _ _).alloc (Nat.le_refl _) _).trans (hb1.mono (by simp))
  have hbl := heap_lt hbx
  have HBX := Lib.hid hbx
  obtain ⟨q0, q1, q2, _⟩ := three_cells hbx
  clear hb1 hbx HIS
  go_wp2_with fail
  refine (HWD.out _ F ((RMemH.good r ring cells l).calm HO.out HB1.out)).mono ?_
  rintro e w3 ⟨rfl, hb3⟩
  have HBG : Hid (Below w.heap.size w w3) := HB1.out.trans (hb3.mono (by omega))
  have HM : Hid (w3.heap[r]? = _) := (HBG.out.block r hrl).trans H1.out
  have HG := Lib.hid (own_calm H2.out HBG.out)
  obtain ⟨_, _, p4, fz⟩ := three_cells HM.out
  obtain ⟨q0', q1', q2', _⟩ := three_cells ((hb3.block w.heap.size hbl).trans HBX.out)
  clear q0 q1 q2 hb3
  have q0 := q0'
  have q1 := q1'
  have q2 := q2'
  clear q0' q1' q2'
  have hpl := heap_lt HM.out
  go_wp2_with fail
  go_region_law (((refine stepW_lies (by rfl) (.tmp 26) (.tmp 35) 81 (by rfl) 0 117 i0 (.agg #[.int .i64 0, .int .i64 0, .int .i64 0, .int .i64 0, .int .i64 0, .int .i64 0, .int .i64 0, .bool false]) 8 64 Try.underlying81 hi hI0 hI1 hI2 (by rfl) (by decide) _ _ _ (by rfl) (World.ownsRow.alloc (w := w3.drew) HG.out _) ⟨w3.heap.size, 0, none⟩ 1 1 (accCell (swAcc th k i j old v false)) (by rfl) (by rfl) (eight_at w3.drew _ _ _ _ _ _ _ _ _ _ rfl) (acc_one _) (by decide) (by unfold maxLen; omega) (by omega) (Nat.zero_le _) _ rfl ?_; intro g2 c2 w2 hown2 hgrow hat hlt; have HP2 : Hid (w2.heap[r]? = some (.cells #[.int .i64 cells, .int .i64 ring, .slice la l.length lc] 84)) := (hgrow.block r (by simp; exact Nat.lt_succ_of_lt hpl) (fun e => H3.out e.symm)).trans (heapAlloc_old (w := w3.drew) HM.out _); obtain ⟨_, _, p4', fz'⟩ := three_cells HP2.out)))
  all_goals
    have hC : Chg (fun b => (Value.slice la l.length lc).ownBlock = some b) w3 w2 := (Chg.alloc _ _ _).drew.grow hgrow (fun b hb _ => hb)
    have hW : (Value.slice (some ⟨g2, 0, none⟩) (l.length + 1) c2).ownBlock = (Value.slice la l.length lc).ownBlock ∨ ∃ b, (Value.slice (some ⟨g2, 0, none⟩) (l.length + 1) c2).ownBlock = some b ∧ w3.heap.size ≤ b := by
      rcases hat with e | e
      · exact .inl (by rw [e]; rfl)
      · exact .inr ⟨g2, rfl, by rw [e]; simp⟩
    have K3 := Lib.hid (rmem_logged (ring := ring) HM.out H3.out H4.out hown2 hC hW)
    clear hC hW hown2 hgrow hat hlt p4 fz q0 q1 q2 p4' fz' HP2
    go_wp2_with fail
    go_ret2
    exact ⟨rfl, K3.out.pre HBG.out⟩
end Go.Proofs.Ytojkeahffabifaa
