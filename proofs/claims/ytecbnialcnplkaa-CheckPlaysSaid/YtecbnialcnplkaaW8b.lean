/- Layer 8: the walk of CheckElse. -/
import Derived.Test.YtecbnialcnplkaaW8
import Derived.Test.YtecbnialcnplkaaC3i
namespace Go.Proofs.Ytecbnialcnplkaa
open Go.RowKit
set_option linter.unusedVariables false
theorem ktakes_any (s f : Int) (w : World) : Calls Try.prog 16 #[.int .i64 s, .int .i64 f] w fun e w' => e = .returned (.bool (decide ((1 ≤ s ∧ s ≤ 16) ∧ 0 ≤ f))) ∧ w = w' := by
  by_cases h1 : 1 ≤ s
  · by_cases h2 : s ≤ 16
    · by_cases h3 : 0 ≤ f
      · go_enter Try.func16, Try.ntmps16
        go_wp2
        go_ret
        exact ⟨by congr 2; simp [h1, h2, h3], rfl⟩
      · go_enter Try.func16, Try.ntmps16
        go_wp2
        go_ret
        exact ⟨by congr 2; simp; omega, rfl⟩
    · go_enter Try.func16, Try.ntmps16
      go_wp2
      go_ret
      exact ⟨by congr 2; simp; omega, rfl⟩
  · go_enter Try.func16, Try.ntmps16
    go_wp2
    go_ret
    exact ⟨by congr 2; simp; omega, rfl⟩
theorem eqAns (a b c : Int) (y : Bool) (w : World) : (Op.equalIn 10000 48 (.agg #[.int .i64 a, .int .i64 b, .int .i64 c, .bool y]) (.agg #[.int .i64 a, .int .i64 b, .int .i64 c, .bool y])).run Try.prog w = .ok true w := by
  rw [run_equalIn_struct w 9999 48 _ _ (by kernel_rfl) (by kernel_rfl)]
  have hk : (Try.prog.fieldsOf 48).toList.map (fun f => ((f.name != "_", Try.prog.plainKey f.type, Try.prog.underlying f.type), f.offset)) = [((true, true, some (.int .i64)), 0), ((true, true, some (.int .i64)), 1), ((true, true, some (.int .i64)), 2), ((true, true, some .bool), 3)] := by kernel_rfl
  obtain ⟨f0, r0, hf, e0, hk1⟩ := List.map_eq_cons_iff.1 hk
  obtain ⟨f1, r1, rfl, e1, hk2⟩ := List.map_eq_cons_iff.1 hk1
  obtain ⟨f2, r2, rfl, e2, hk3⟩ := List.map_eq_cons_iff.1 hk2
  obtain ⟨f3, r3, rfl, e3, hk4⟩ := List.map_eq_cons_iff.1 hk3
  obtain rfl := List.map_eq_nil_iff.1 hk4
  rw [Prod.mk.injEq] at e0 e1 e2 e3
  rw [hf]
  exact eqF3_int (a := a) e0.1 (by rw [e0.2]; rfl) (eqF3_int (a := b) e1.1 (by rw [e1.2]; rfl) (eqF3_int (a := c) e2.1 (by rw [e2.2]; rfl) (eqF3_bool (a := y) e3.1 (by rw [e3.2]; rfl) (eqF3_nil _ _ _ _))))
/-- Cells of a box of a signature. -/
theorem sig_calm {w w' : World} {b : Nat} {rs : Nat → Int} (h : w.heap[b]? = some (.cells #[.int .u64 (rs 0), .int .u64 (rs 1), .int .u64 (rs 2), .int .u64 (rs 3), .int .u64 (rs 4), .int .u64 (rs 5), .int .u64 (rs 6), .int .u64 (rs 7)] 42)) (hb : Below w.heap.size w w') : w'.heap[b]? = some (.cells #[.int .u64 (rs 0), .int .u64 (rs 1), .int .u64 (rs 2), .int .u64 (rs 3), .int .u64 (rs 4), .int .u64 (rs 5), .int .u64 (rs 6), .int .u64 (rs 7)] 42) := (hb.block b (heap_lt h)).trans h
set_option maxHeartbeats 4000000 in
set_option maxRecDepth 100000 in
theorem checkElse_law {w : World} (n fr : Int) (rs : Nat → Int) (m : Int) (hrs : Wds rs) :
    Calls Try.prog 4 #[.agg #[.int .i64 n, .int .i64 fr, .int .u64 (rs 0), .int .u64 (rs 1), .int .u64 (rs 2), .int .u64 (rs 3), .int .u64 (rs 4), .int .u64 (rs 5), .int .u64 (rs 6), .int .u64 (rs 7), .int .i64 m]] w fun e w' => e = .returned (.bool true) ∧ Below w.heap.size w w' := by
  have HE := Lib.hid (eqAns 0 0 0 false)
  have HT := Lib.hid (ktakes_any n fr)
  have HT2 := Lib.hid (rtakes_any 1 m)
  have HB0 : Hid (∀ a b, Below w.heap.size w ((w.alloc a).alloc b)) := fun a b => ((Below.refl _ _).alloc (Nat.le_refl _) _).alloc (by simp) _
  by_cases ht : ((1 ≤ n ∧ n ≤ 16) ∧ 0 ≤ fr)
  · by_cases ht2 : (1 ≤ (1 : Int) ∧ (1 : Int) ≤ 1024) ∧ 1 ≤ m ∧ m ≤ 16
    · by_cases hnm : n = m
      · have e1 : (n == m) = true := by simp [hnm]
        rw [decide_eq_true ht] at HT
        rw [decide_eq_true ht2] at HT2
        clear hnm ht ht2 HE
        go_enter Try.func4, Try.ntmps4
        go_wp2_with fail
        refine (shown8_any _).mono ?_; rintro e w1 ⟨rfl, hb⟩
        have B1 := Lib.hid ((HB0.out _ _).trans (hb.mono (by simp; omega)))
        clear hb
        go_wp2_with fail
        refine (HT.out w1).mono ?_; rintro e w' ⟨rfl, rfl⟩
        go_wp2_with fail
        refine (HT2.out w1).mono ?_; rintro e w' ⟨rfl, rfl⟩
        go_wp2_with fail
        go_ret
        exact ⟨rfl, B1.out⟩
      · have e1 : (n == m) = false := by simp [hnm]
        rw [decide_eq_true ht] at HT
        rw [decide_eq_true ht2] at HT2
        obtain ⟨r, rfl⟩ : ∃ r : Nat, m = r := ⟨m.toNat, by omega⟩
        obtain ⟨z, rfl⟩ : ∃ z : Nat, n = z := ⟨n.toNat, by omega⟩
        have hrz : r ≠ z := by omega
        have HC := Lib.hid (chkNew_any z fr rs true ht.1.1 ht.1.2 ht.2)
        have HM := Lib.hid (memNew_any 1 r (by decide) (by decide) (by omega) (by omega))
        clear hnm ht ht2
        go_enter Try.func4, Try.ntmps4
        go_wp2_with fail
        refine (shown8_any _).mono ?_; rintro e w1 ⟨rfl, hb⟩
        have hbx : w1.heap[w.heap.size + 1]? = some (.cells #[.int .u64 (rs 0), .int .u64 (rs 1), .int .u64 (rs 2), .int .u64 (rs 3), .int .u64 (rs 4), .int .u64 (rs 5), .int .u64 (rs 6), .int .u64 (rs 7)] 42) := (hb.block _ (by simp)).trans (by
          have h : ∀ a b, ((w.alloc a).alloc b).heap[w.heap.size + 1]? = some b := fun a b => by
            have h := heapAlloc (w.alloc a) b
            rwa [World.size_alloc] at h
          exact h _ _)
        have B1 := Lib.hid ((HB0.out _ _).trans (hb.mono (by simp; omega)))
        obtain ⟨d0, d1, d2, d3, d4, d5, d6, d7, dz⟩ := blk_facts hbx
        clear hb hbx
        go_wp2_with fail
        refine (HT.out w1).mono ?_; rintro e w' ⟨rfl, rfl⟩
        go_wp2_with fail
        refine (HT2.out w1).mono ?_; rintro e w' ⟨rfl, rfl⟩
        go_wp2_with fail
        refine (HC.out w1).mono ?_; rintro e w2 ⟨x, rfl, h⟩
        have H2 := Lib.hid h
        clear h d0 d1 d2 d3 d4 d5 d6 d7 dz
        go_wp2_with fail
        refine (HM.out w2).mono ?_; rintro e w3 ⟨p, rfl, h⟩
        have H3 : Hid (AtW w (CStep p x r 1 [] z fr rs true ⟨0, fr, 0, 0, 0⟩) w3) := ((H2.out.new (BlkH.good _ _ _) h).up B1.out).imp (fun _ h => h.comm)
        clear h H2 HM HC HT HT2 B1 HB0
        go_wp2_with fail
        refine ((chkStep_none p x r 1 [] z fr rs true ⟨0, fr, 0, 0, 0⟩ 3 (.inl hrz)).at (CStep.good _ _ _ _ _ _ _ _ _ _) H3.out).mono ?_
        rintro e w4 ⟨rfl, h⟩
        have H4 := Lib.hid (h.box (CStep.good _ _ _ _ _ _ _ _ _ _) #[.int .i64 0, .int .i64 0, .int .i64 0, .bool false] 48)
        clear h H3
        unfold ansV
        go_wp2_with fail
        refine ((Looks.left (Looks.left (count_any p r 1 []))).at ((CStep.good _ _ _ _ _ _ _ _ _ _).star (BlkH.good _ _ _)) H4.out).mono ?_
        rintro e w5 ⟨rfl, h⟩
        have H5 := Lib.hid h
        clear h H4
        go_wp2_with fail
        refine ((Looks.left (Looks.right (chkStart_no x z fr rs true ⟨0, fr, 0, 0, 0⟩ (by show (0 : Int) ≠ 4; decide)))).at ((CStep.good _ _ _ _ _ _ _ _ _ _).star (BlkH.good _ _ _)) H5.out).mono ?_
        rintro e w6 ⟨rfl, h⟩
        have H6 := Lib.hid h.below
        obtain ⟨a0, a1, a2, a3, _⟩ := four_cells h.has.right.blk
        have he := HE.out
        clear h H5
        go_wp2_with fail
        go_ret
        exact ⟨rfl, H6.out⟩
    · rw [decide_eq_true ht] at HT
      rw [decide_eq_false ht2] at HT2
      clear ht ht2 HE
      go_enter Try.func4, Try.ntmps4
      go_wp2_with fail
      refine (shown8_any _).mono ?_; rintro e w1 ⟨rfl, hb⟩
      have B1 := Lib.hid ((HB0.out _ _).trans (hb.mono (by simp; omega)))
      clear hb
      go_wp2_with fail
      refine (HT.out w1).mono ?_; rintro e w' ⟨rfl, rfl⟩
      go_wp2_with fail
      refine (HT2.out w1).mono ?_; rintro e w' ⟨rfl, rfl⟩
      go_wp2_with fail
      go_ret
      exact ⟨rfl, B1.out⟩
  · rw [decide_eq_false ht] at HT
    clear ht HE
    go_enter Try.func4, Try.ntmps4
    go_wp2_with fail
    refine (shown8_any _).mono ?_; rintro e w1 ⟨rfl, hb⟩
    have B1 := Lib.hid ((HB0.out _ _).trans (hb.mono (by simp; omega)))
    clear hb
    go_wp2_with fail
    refine (HT.out w1).mono ?_; rintro e w' ⟨rfl, rfl⟩
    go_wp2_with fail
    refine (HT2.out w1).mono ?_; rintro e w' ⟨rfl, rfl⟩
    go_wp2_with fail
    go_ret
    exact ⟨rfl, B1.out⟩
end Go.Proofs.Ytecbnialcnplkaa
