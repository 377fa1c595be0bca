/- Layer 3: Store. -/
import Derived.Test.YtojkeahffabifaaC3b
namespace Go.Proofs.Ytojkeahffabifaa
open Go.RowKit
set_option linter.unusedVariables false
set_option maxHeartbeats 2000000 in
set_option maxRecDepth 100000 in
theorem store_in (p ring cells : Nat) (l : List Acc) (hlen : l.length ≤ 3000000000000) (th k i j v : Int) (ha : isA ring cells k i j) :
    Lifts Try.prog 20 #[.pointer (some ⟨p, 0, none⟩), .int .i64 th, .agg #[.int .i64 k, .int .i64 i, .int .i64 j], .int .i64 v] (MemH p ring cells l) (MemH p ring cells (l ++ [stAcc th k i j v])) (.returned (.int .i64 0)) := by
  rintro w F ⟨hv, sv, cv, lv, h1, h2, h3, h4⟩
  obtain ⟨i0, hi, hI0, hI1, hI2⟩ := info_parts infoAcc
  obtain ⟨la, lc, rfl⟩ := ownAt_form h2
  have H1 := Lib.hid h1
  have H2 := Lib.hid h2
  have H3 := Lib.hid h3
  have H4 := Lib.hid h4
  have HA := Lib.hid ha
  clear h1 h2 h3 h4 ha
  go_enter Try.func20, Try.ntmps20
  go_wp2_with fail
  have hb0 : Below w.heap.size w (w.alloc (.cells #[.int .i64 k, .int .i64 i, .int .i64 j] 59)) := (Below.refl _ _).alloc (Nat.le_refl _) _
  refine (word_in _ p ring cells (wordOf l) hv sv cv _ (H1.out.calm hb0) k i j HA.out).mono ?_
  rintro e w1 ⟨⟨g, o, rfl, hpl⟩, hb1⟩
  have hb : Hid (Below w.heap.size w w1) := hb0.trans (hb1.mono (by simp))
  have hM := H1.out.calm hb.out
  obtain ⟨hcell, hfz, hset⟩ := place_facts hM H3.out HA.out hpl
  have hgb := hpl.blk
  have hM2 := hset v
  obtain ⟨p0, _, _, _, p4, fz⟩ := mem_cells hM2.1
  have hbx : w1.heap[w.heap.size]? = some (.cells #[.int .i64 k, .int .i64 i, .int .i64 j] 59) := (hb1.block _ (by simp)).trans (heapAlloc w _)
  have hgl : g < w.heap.size := by
    rcases hgb with rfl | h | h | h
    · exact heap_lt H1.out.1
    · exact (H1.out.2.1.lt g h).2
    · exact (H1.out.2.2.1.lt g h).2
    · exact (H1.out.2.2.2.lt g h).2
  have hlg : (Value.slice la l.length lc).ownBlock ≠ some g := by
    rcases hgb with rfl | h | h | h
    · exact H3.out.lp
    · exact H3.out.hl g h
    · exact H3.out.sl g h
    · exact H3.out.cl g h
  have hbx2 : (w1.setCell ⟨g, o, none⟩ (.int .i64 v)).heap[w.heap.size]? = some (.cells #[.int .i64 k, .int .i64 i, .int .i64 j] 59) := (heapSet_ne _ _ _ _ (by show w.heap.size ≠ g; omega)).trans hbx
  have q0 : (w1.setCell ⟨g, o, none⟩ (.int .i64 v)).cell? ⟨w.heap.size, 0, none⟩ = some (.int .i64 k) := by simp [World.cell?, hbx2]
  have q1 : (w1.setCell ⟨g, o, none⟩ (.int .i64 v)).cell? ⟨w.heap.size, 1, none⟩ = some (.int .i64 i) := by simp [World.cell?, hbx2]
  have q2 : (w1.setCell ⟨g, o, none⟩ (.int .i64 v)).cell? ⟨w.heap.size, 2, none⟩ = some (.int .i64 j) := by simp [World.cell?, hbx2]
  have hC1 : Hid (Chg (fun b => b = g) w1 (w1.setCell ⟨g, o, none⟩ (.int .i64 v))) := Chg.setCell w1 ⟨g, o, none⟩ _
  have HG : Hid ((w1.setCell ⟨g, o, none⟩ (.int .i64 v)).ownsRow 0 117 8 (.slice la l.length lc) l.length (accCells l)) := own_chg (own_calm H2.out hb.out) hC1.out (fun b hb e => hlg (by rw [hb, e]))
  have HM : Hid (MemW (w1.setCell ⟨g, o, none⟩ (.int .i64 v)) p ring cells (wordOf (l ++ [stAcc th k i j v])) hv sv cv (.slice la l.length lc)) := by
    show MemW _ _ _ _ _ _ _ _ _
    rw [wordOf_st]; exact hM2
  have HFG : Hid (F g) := (H4.out g).2 (.inl hgb)
  have hpl := heap_lt HM.out.1
  have HCF : Hid (Chg F w (w1.setCell ⟨g, o, none⟩ (.int .i64 v))) := (Chg.calm F hb.out).trans hC1.out (fun _ h => h) (fun b _ e => by subst e; exact HFG.out)
  clear hb0 hb1 hM hbx hM2 hset hgb hgl hlg hbx2 p0 hC1
  go_wp2_with fail
  generalize w1.setCell ⟨g, o, none⟩ (.int .i64 v) = wg at *
  go_region_law ((refine stepW_lies (by rfl) (.tmp 22) (.tmp 27) 81 (by rfl) 0 117 i0 (.agg #[.int .i64 0, .int .i64 0, .int .i64 0, .int .i64 0, .int .i64 0, .int .i64 0, .int .i64 0, .bool false]) 8 64 Try.underlying81 hi hI0 hI1 hI2 (by rfl) (by decide) _ _ _ (by rfl) (World.ownsRow.alloc (w := wg.drew) HG.out _) ⟨wg.heap.size, 0, none⟩ 1 1 (accCell (stAcc th k i j v)) (by rfl) (by rfl) (eight_at wg.drew _ _ _ _ _ _ _ _ _ _ rfl) (acc_one _) (by decide) (by unfold maxLen; omega) (by omega) (Nat.zero_le _) _ rfl ?_; intro g2 c2 w2 hown2 hgrow hat hlt; have HP2 : Hid (w2.heap[p]? = some (.cells #[.int .i64 (wordOf (l ++ [stAcc th k i j v]) 1 0 0), hv, sv, cv, .slice la l.length lc] 89)) := (hgrow.block p (by simp; exact Nat.lt_succ_of_lt hpl) (fun e => H3.out.lp e.symm)).trans (heapAlloc_old (w := wg.drew) HM.out.1 _); obtain ⟨_, _, _, _, p4', fz'⟩ := mem_cells HP2.out))
  all_goals
    have hC : Chg (fun b => (Value.slice la l.length lc).ownBlock = some b) wg w2 := (Chg.alloc _ _ _).drew.grow hgrow (fun b hb _ => hb)
    have hW : (Value.slice (some ⟨g2, 0, none⟩) (l.length + 1) c2).ownBlock = (Value.slice la l.length lc).ownBlock ∨ ∃ b, (Value.slice (some ⟨g2, 0, none⟩) (l.length + 1) c2).ownBlock = some b ∧ wg.heap.size ≤ b := by
      rcases hat with e | e
      · exact .inl (by rw [e]; rfl)
      · exact .inr ⟨g2, rfl, by rw [e]; simp⟩
    obtain ⟨k1, k2, k3⟩ := mem_logged HM.out H3.out H4.out hown2 hC hW
    have K3 := Lib.hid k3
    clear k1 k2 k3 hC hW hown2 hgrow hat hlt p4 fz q0 q1 q2 p4' fz' hfz hcell HP2
    go_wp2_with fail
    go_ret
    exact ⟨rfl, K3.out.preC HCF.out⟩
end Go.Proofs.Ytojkeahffabifaa
