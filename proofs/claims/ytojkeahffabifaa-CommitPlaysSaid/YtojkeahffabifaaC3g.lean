/- Layer 3: the reference's Load, Store. -/
import Derived.Test.YtojkeahffabifaaC3f
import Derived.Test.YtojkeahffabifaaAW
namespace Go.Proofs.Ytojkeahffabifaa
open Go.RowKit
set_option linter.unusedVariables false
/-- The reference's log has grown. -/
theorem rmem_logged {w w2 : World} {F : Nat → Prop} {r ring cells : Nat} {l : List Acc} {x : Acc} {lv lv' : Value} (h1 : w.heap[r]? = some (.cells #[.int .i64 cells, .int .i64 ring, lv] 84)) (h3 : lv.ownBlock ≠ some r) (h4 : ∀ b, F b ↔ b = r ∨ lv.ownBlock = some b)
    (ho : w2.ownsRow 0 117 8 lv' (l.length + 1) (accCells l ++ accCell x)) (hc : Chg (fun b => lv.ownBlock = some b) w w2) (hw : lv'.ownBlock = lv.ownBlock ∨ ∃ b, lv'.ownBlock = some b ∧ w.heap.size ≤ b) :
    Stp w (w2.setCell ⟨r, 2, none⟩ lv') F (RMemH r ring cells (l ++ [x])) := by
  have hr := heap_lt h1
  have hn' : lv'.ownBlock ≠ some r := by
    intro e
    rcases hw with h | ⟨b', h, hb'⟩
    · exact h3 (h ▸ e)
    · rw [h] at e
      simp at e; omega
  have hm := (hc.block r hr (fun e => h3 e)).trans h1
  refine ⟨fun b => b = r ∨ lv'.ownBlock = some b, ⟨lv', (heapSet_eq _ _ _ _ _ _ _ hm).trans (by simp), ?_, hn', fun b => Iff.rfl⟩, ?_, ?_⟩
  · rw [accCells_snoc, List.length_append]
    exact own_chg ho (Chg.setCell _ _ _) (fun b hb (e : b = r) => hn' (by rw [hb, e]))
  · exact (hc.mono (fun b hb => (h4 b).2 (.inr hb))).set _ _ (.inr ((h4 r).2 (.inl rfl)))
  · rintro b (h | h)
    · exact .inl ((h4 b).2 (.inl h))
    · rcases hw with e | ⟨b', e, hb'⟩
      · exact .inl ((h4 b).2 (.inr (e ▸ h)))
      · rw [e] at h
        simp at h; right; omega
set_option maxHeartbeats 2000000 in
set_option maxRecDepth 100000 in
theorem rload_in (r ring cells : Nat) (l : List Acc) (hlen : l.length ≤ 3000000000000) (th k i j : Int) (ha : isA ring cells k i j) :
    Lifts Try.prog 59 #[.pointer (some ⟨r, 0, none⟩), .int .i64 th, .agg #[.int .i64 k, .int .i64 i, .int .i64 j]] (RMemH r ring cells l) (RMemH r ring cells (l ++ [ldAcc th k i j (wordOf l k i j)])) (.returned (.tuple #[.int .i64 (wordOf l k i j), .int .i64 0])) := by
  rintro w F h
  obtain ⟨i0, hi, hI0, hI1, hI2⟩ := info_parts infoAcc
  have hb0 : Below w.heap.size w (w.alloc (.cells #[.int .i64 k, .int .i64 i, .int .i64 j] 59)) := (Below.refl _ _).alloc (Nat.le_refl _) _
  have HIS := Lib.hid (is_any r ring cells l k i j _ F ((RMemH.good r ring cells l).calm h hb0))
  have HD : Hid (decide (isA ring cells k i j) = true) := decide_eq_true ha
  rw [HD.out] at HIS
  have HWD := Lib.hid (rword_any r ring cells l hlen k i j)
  have HO := Lib.hid h
  obtain ⟨lv, h1, h2, h3, h4⟩ := h
  obtain ⟨la, lc, rfl⟩ := ownAt_form h2
  have H1 := Lib.hid h1
  have H2 := Lib.hid h2
  have H3 := Lib.hid h3
  have H4 := Lib.hid h4
  have hrl := heap_lt h1
  generalize hV : wordOf l k i j = u at *
  have HV := Lib.hid hV
  clear h1 h2 h3 h4 ha hb0 hV
  go_enter Try.func59, Try.ntmps59
  go_wp2_with fail
  refine HIS.out.mono ?_
  rintro e w1 ⟨rfl, hb1⟩
  have hbx : w1.heap[w.heap.size]? = some (.cells #[.int .i64 k, .int .i64 i, .int .i64 j] 59) := (hb1.block _ (by simp)).trans (heapAlloc w _)
  have HB1 : Hid (Below w.heap.size w w1) := ((Below.refl _ _).alloc (Nat.le_refl _) _).trans (hb1.mono (by simp))
  have hbl := heap_lt hbx
  have HBX := Lib.hid hbx
  obtain ⟨q0, q1, q2, _⟩ := three_cells hbx
  clear hb1 hbx HIS
  go_wp2_with fail
  refine (HWD.out _ F ((RMemH.good r ring cells l).calm HO.out HB1.out)).mono ?_
  rintro e w3 ⟨rfl, hb3⟩
  have HBG : Hid (Below w.heap.size w w3) := HB1.out.trans (hb3.mono (by omega))
  have HM : Hid (w3.heap[r]? = _) := (HBG.out.block r hrl).trans H1.out
  have HG := Lib.hid (own_calm H2.out HBG.out)
  obtain ⟨_, _, p4, fz⟩ := three_cells HM.out
  obtain ⟨q0', q1', q2', _⟩ := three_cells ((hb3.block w.heap.size hbl).trans HBX.out)
  clear q0 q1 q2 hb3
  have q0 := q0'
  have q1 := q1'
  have q2 := q2'
  clear q0' q1' q2'
  have hpl := heap_lt HM.out
  go_wp2_with fail
  go_region_law (((refine stepW_lies (by rfl) (.tmp 22) (.tmp 27) 81 (by rfl) 0 117 i0 (.agg #[.int .i64 0, .int .i64 0, .int .i64 0, .int .i64 0, .int .i64 0, .int .i64 0, .int .i64 0, .bool false]) 8 64 Try.underlying81 hi hI0 hI1 hI2 (by rfl) (by decide) _ _ _ (by rfl) (World.ownsRow.alloc (w := w3.drew) HG.out _) ⟨w3.heap.size, 0, none⟩ 1 1 (accCell (ldAcc th k i j u)) (by rfl) (by rfl) (eight_at w3.drew _ _ _ _ _ _ _ _ _ _ rfl) (acc_one _) (by decide) (by unfold maxLen; omega) (by omega) (Nat.zero_le _) _ rfl ?_; intro g2 c2 w2 hown2 hgrow hat hlt; have HP2 : Hid (w2.heap[r]? = some (.cells #[.int .i64 cells, .int .i64 ring, .slice la l.length lc] 84)) := (hgrow.block r (by simp; exact Nat.lt_succ_of_lt hpl) (fun e => H3.out e.symm)).trans (heapAlloc_old (w := w3.drew) HM.out _); obtain ⟨_, _, p4', fz'⟩ := three_cells HP2.out)))
  all_goals
    have hC : Chg (fun b => (Value.slice la l.length lc).ownBlock = some b) w3 w2 := (Chg.alloc _ _ _).drew.grow hgrow (fun b hb _ => hb)
    have hW : (Value.slice (some ⟨g2, 0, none⟩) (l.length + 1) c2).ownBlock = (Value.slice la l.length lc).ownBlock ∨ ∃ b, (Value.slice (some ⟨g2, 0, none⟩) (l.length + 1) c2).ownBlock = some b ∧ w3.heap.size ≤ b := by
      rcases hat with e | e
      · exact .inl (by rw [e]; rfl)
      · exact .inr ⟨g2, rfl, by rw [e]; simp⟩
    have K3 := Lib.hid (rmem_logged (ring := ring) HM.out H3.out H4.out hown2 hC hW)
    clear hC hW hown2 hgrow hat hlt p4 fz q0 q1 q2 p4' fz' HP2
    go_wp2_with fail
    go_ret2
    exact ⟨rfl, K3.out.pre HBG.out⟩
set_option maxHeartbeats 2000000 in
theorem rload_out (r ring cells : Nat) (l : List Acc) (th k i j : Int) (ha : ¬ isA ring cells k i j) :
    Lifts Try.prog 59 #[.pointer (some ⟨r, 0, none⟩), .int .i64 th, .agg #[.int .i64 k, .int .i64 i, .int .i64 j]] (RMemH r ring cells l) (RMemH r ring cells l) (.returned (.tuple #[.int .i64 0, .int .i64 1])) := by
  rintro w F h
  have hb0 : Below w.heap.size w (w.alloc (.cells #[.int .i64 k, .int .i64 i, .int .i64 j] 59)) := (Below.refl _ _).alloc (Nat.le_refl _) _
  have HIS := Lib.hid (is_any r ring cells l k i j _ F ((RMemH.good r ring cells l).calm h hb0))
  have HD : Hid (decide (isA ring cells k i j) = false) := decide_eq_false ha
  rw [HD.out] at HIS
  have HO := Lib.hid h
  clear h ha hb0
  go_enter Try.func59, Try.ntmps59
  go_wp2_with fail
  refine HIS.out.mono ?_
  rintro e w1 ⟨rfl, hb1⟩
  have HB1 : Hid (Below w.heap.size w w1) := ((Below.refl _ _).alloc (Nat.le_refl _) _).trans (hb1.mono (by simp))
  clear hb1
  go_wp2_with fail
  go_ret2
  exact ⟨rfl, Stp.calm (RMemH.good r ring cells l) HO.out HB1.out⟩
set_option maxHeartbeats 2000000 in
set_option maxRecDepth 100000 in
theorem rstore_in (r ring cells : Nat) (l : List Acc) (hlen : l.length ≤ 3000000000000) (th k i j v : Int) (ha : isA ring cells k i j) :
    Lifts Try.prog 21 #[.pointer (some ⟨r, 0, none⟩), .int .i64 th, .agg #[.int .i64 k, .int .i64 i, .int .i64 j], .int .i64 v] (RMemH r ring cells l) (RMemH r ring cells (l ++ [stAcc th k i j v])) (.returned (.int .i64 0)) := by
  rintro w F h
  obtain ⟨i0, hi, hI0, hI1, hI2⟩ := info_parts infoAcc
  have hb0 : Below w.heap.size w (w.alloc (.cells #[.int .i64 k, .int .i64 i, .int .i64 j] 59)) := (Below.refl _ _).alloc (Nat.le_refl _) _
  have HIS := Lib.hid (is_any r ring cells l k i j _ F ((RMemH.good r ring cells l).calm h hb0))
  have HD : Hid (decide (isA ring cells k i j) = true) := decide_eq_true ha
  rw [HD.out] at HIS
  have HWD := Lib.hid (rword_any r ring cells l hlen k i j)
  have HO := Lib.hid h
  obtain ⟨lv, h1, h2, h3, h4⟩ := h
  obtain ⟨la, lc, rfl⟩ := ownAt_form h2
  have H1 := Lib.hid h1
  have H2 := Lib.hid h2
  have H3 := Lib.hid h3
  have H4 := Lib.hid h4
  have hrl := heap_lt h1
  generalize hV : wordOf l k i j = u at *
  have HV := Lib.hid hV
  clear h1 h2 h3 h4 ha hb0 hV
  go_enter Try.func21, Try.ntmps21
  go_wp2_with fail
  refine HIS.out.mono ?_
  rintro e w1 ⟨rfl, hb1⟩
  have hbx : w1.heap[w.heap.size]? = some (.cells #[.int .i64 k, .int .i64 i, .int .i64 j] 59) := (hb1.block _ (by simp)).trans (heapAlloc w _)
  have HB1 : Hid (Below w.heap.size w w1) := ((Below.refl _ _).alloc (Nat.le_refl _) _).trans (hb1.mono (by simp))
  have hbl := heap_lt hbx
  have HBX := Lib.hid hbx
  obtain ⟨q0, q1, q2, _⟩ := three_cells hbx
  clear hb1 hbx HIS
  have HBG := HB1
  have HM : Hid (w1.heap[r]? = _) := (HBG.out.block r hrl).trans H1.out
  have HG := Lib.hid (own_calm H2.out HBG.out)
  obtain ⟨_, _, p4, fz⟩ := three_cells HM.out
  have hpl := heap_lt HM.out
  go_wp2_with fail
  go_region_law (((refine stepW_lies (by rfl) (.tmp 19) (.tmp 24) 81 (by rfl) 0 117 i0 (.agg #[.int .i64 0, .int .i64 0, .int .i64 0, .int .i64 0, .int .i64 0, .int .i64 0, .int .i64 0, .bool false]) 8 64 Try.underlying81 hi hI0 hI1 hI2 (by rfl) (by decide) _ _ _ (by rfl) (World.ownsRow.alloc (w := w1.drew) HG.out _) ⟨w1.heap.size, 0, none⟩ 1 1 (accCell (stAcc th k i j v)) (by rfl) (by rfl) (eight_at w1.drew _ _ _ _ _ _ _ _ _ _ rfl) (acc_one _) (by decide) (by unfold maxLen; omega) (by omega) (Nat.zero_le _) _ rfl ?_; intro g2 c2 w2 hown2 hgrow hat hlt; have HP2 : Hid (w2.heap[r]? = some (.cells #[.int .i64 cells, .int .i64 ring, .slice la l.length lc] 84)) := (hgrow.block r (by simp; exact Nat.lt_succ_of_lt hpl) (fun e => H3.out e.symm)).trans (heapAlloc_old (w := w1.drew) HM.out _); obtain ⟨_, _, p4', fz'⟩ := three_cells HP2.out)))
  all_goals
    have hC : Chg (fun b => (Value.slice la l.length lc).ownBlock = some b) w1 w2 := (Chg.alloc _ _ _).drew.grow hgrow (fun b hb _ => hb)
    have hW : (Value.slice (some ⟨g2, 0, none⟩) (l.length + 1) c2).ownBlock = (Value.slice la l.length lc).ownBlock ∨ ∃ b, (Value.slice (some ⟨g2, 0, none⟩) (l.length + 1) c2).ownBlock = some b ∧ w1.heap.size ≤ b := by
      rcases hat with e | e
      · exact .inl (by rw [e]; rfl)
      · exact .inr ⟨g2, rfl, by rw [e]; simp⟩
    have K3 := Lib.hid (rmem_logged (ring := ring) HM.out H3.out H4.out hown2 hC hW)
    clear hC hW hown2 hgrow hat hlt p4 fz q0 q1 q2 p4' fz' HP2
    go_wp2_with fail
    go_ret
    exact ⟨rfl, K3.out.pre HBG.out⟩
set_option maxHeartbeats 2000000 in
theorem rstore_out (r ring cells : Nat) (l : List Acc) (th k i j v : Int) (ha : ¬ isA ring cells k i j) :
    Lifts Try.prog 21 #[.pointer (some ⟨r, 0, none⟩), .int .i64 th, .agg #[.int .i64 k, .int .i64 i, .int .i64 j], .int .i64 v] (RMemH r ring cells l) (RMemH r ring cells l) (.returned (.int .i64 1)) := by
  rintro w F h
  have hb0 : Below w.heap.size w (w.alloc (.cells #[.int .i64 k, .int .i64 i, .int .i64 j] 59)) := (Below.refl _ _).alloc (Nat.le_refl _) _
  have HIS := Lib.hid (is_any r ring cells l k i j _ F ((RMemH.good r ring cells l).calm h hb0))
  have HD : Hid (decide (isA ring cells k i j) = false) := decide_eq_false ha
  rw [HD.out] at HIS
  have HO := Lib.hid h
  clear h ha hb0
  go_enter Try.func21, Try.ntmps21
  go_wp2_with fail
  refine HIS.out.mono ?_
  rintro e w1 ⟨rfl, hb1⟩
  have HB1 : Hid (Below w.heap.size w w1) := ((Below.refl _ _).alloc (Nat.le_refl _) _).trans (hb1.mono (by simp))
  clear hb1
  go_wp2_with fail
  go_ret
  exact ⟨rfl, Stp.calm (RMemH.good r ring cells l) HO.out HB1.out⟩
end Go.Proofs.Ytojkeahffabifaa
