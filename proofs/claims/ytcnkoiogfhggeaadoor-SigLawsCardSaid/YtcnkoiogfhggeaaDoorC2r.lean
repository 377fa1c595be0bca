/- Contracts of layer 2: Parse by the reference. -/
import Derived.Test.YtcnkoiogfhggeaaDoorC2q
namespace Go.Proofs.YtcnkoiogfhggeaaDoor
open Go.RowKit
set_option linter.unusedVariables false
set_option maxRecDepth 100000 in
set_option maxHeartbeats 2000000 in
theorem refParse_any (s : ByteArray) (hm : s.size ≤ 9223372036854775807) (w : World) : Calls Tryd.prog 34 #[.string s] w fun e w' => e = .returned (.tuple #[(.agg #[.int .u64 ((prS s) 0), .int .u64 ((prS s) 1), .int .u64 ((prS s) 2), .int .u64 ((prS s) 3), .int .u64 ((prS s) 4), .int .u64 ((prS s) 5), .int .u64 ((prS s) 6), .int .u64 ((prS s) 7)]), .int .i64 (prE s), .int .i64 (prA s)]) ∧ Below w.heap.size w w' := by
  go_enter Tryd.func34, Tryd.ntmps34
  go_wp2_with fail
  go_loopw [6, 7] (fun i _ wr => ∃ k : Nat, k ≤ 128 ∧ i = .int .i64 k ∧ w.heap.size + 2 ≤ wr.heap.size ∧ Hid (∀ j, j < k → badP s j = false) ∧ Hid (wr.heap[w.heap.size]? = some (.cells #[.int .u64 (noS 0), .int .u64 (noS 1), .int .u64 (noS 2), .int .u64 (noS 3), .int .u64 (noS 4), .int .u64 (noS 5), .int .u64 (noS 6), .int .u64 (noS 7)] 25) ∧ wr.heap[w.heap.size + 1]? = some (.cells #[.int .u64 ((pwS s k) 0), .int .u64 ((pwS s k) 1), .int .u64 ((pwS s k) 2), .int .u64 ((pwS s k) 3), .int .u64 ((pwS s k) 4), .int .u64 ((pwS s k) 5), .int .u64 ((pwS s k) 6), .int .u64 ((pwS s k) 7)] 25) ∧ Below w.heap.size w wr)) (fun i _ _ => 128 - (intOf i).toNat)
  case atStart => exact ⟨0, by omega, rfl, by simp, fun j hj => by omega, heap2_0 w _ _, heap2_1 w _ _, ((Below.refl _ _).alloc (Nat.le_refl _) _).alloc (by simp) _⟩
  case round =>
    obtain ⟨k, hk, rfl, hsz, HG, HH⟩ := hrel
    obtain ⟨d0, d1, d2, d3, d4, d5, d6, d7, dz⟩ := blk_facts HH.out.1
    by_cases hlt : k < 128
    · by_cases hks : k < s.size
      · obtain ⟨c, HC⟩ : ∃ c, Hid (chrS s k = c) := ⟨_, rfl⟩
        have hix := chr_run s k hks
        rw [HC.out] at hix
        have hcr : 0 ≤ c ∧ c < 256 := by rw [← HC.out]; exact chrS_range s k
        obtain ⟨hc0, hc1⟩ := hcr
        have hdr := digZ_range c
        by_cases hneg : digZ c < 0
        · have HB : Hid (badP s k = true) := by show badP s k = true; unfold badP; rw [HC.out]; simp [hneg]
          have HP := Lib.hid (pr_bad hlt HG.out HB.out)
          obtain ⟨z, HZ⟩ : ∃ z, Hid (digZ c = z) := ⟨_, rfl⟩
          rw [HZ.out] at hneg hdr
          have HR : Hid (digR c = 16) := by show _ = _; unfold digR; rw [HZ.out, if_pos hneg]
          have hk1 : ((k : Int) == (s.size : Int)) = false := by simp; omega
          go_wp2_with fail
          refine (refDigit_any c _).mono ?_; rintro e w' ⟨rfl, rfl⟩
          rw [HR.out]
          go_wp2_with fail
          refine bodyPost_ret (v := .tuple #[(.agg #[.int .u64 (noS 0), .int .u64 (noS 1), .int .u64 (noS 2), .int .u64 (noS 3), .int .u64 (noS 4), .int .u64 (noS 5), .int .u64 (noS 6), .int .u64 (noS 7)]), .int .i64 9, .int .i64 k]) (by simp [results, Tryd.results34, go_sem, d0, d1, d2, d3, d4, d5, d6, d7, noS]) rfl ⟨?_, ?_⟩
          · exact ret_parse (fun j _ => by rw [HP.out.1]) HP.out.2.1.symm HP.out.2.2.symm
          · exact set8_below HH.out.2.2 _ (by omega) _ _ _ _ _ _ _ _
        · have hk1 : ((k : Int) == (s.size : Int)) = false := by simp; omega
          have HB : Hid (badP s k = false) := by show badP s k = false; unfold badP; rw [HC.out]; simp; omega
          have hcell := cell_of_blk HH.out.2.1 (k / 16) (by omega)
          have hfz := (blk_facts HH.out.2.1).2.2.2.2.2.2.2.2
          have hW := pwS_wds s k HG.out
          have hx := hW (k / 16)
          have HN : Hid (∀ z, digZ c = z → pwS s (k + 1) = fun j => if j = k / 16 then pwS s k j * 16 % 18446744073709551616 + z else pwS s k j) := by
            rintro z rfl
            rw [pwS_succ, HC.out]
          obtain ⟨z, HZ⟩ : ∃ z, Hid (digZ c = z) := ⟨_, rfl⟩
          rw [HZ.out] at hneg hdr
          obtain ⟨x, HX⟩ : ∃ x, Hid (pwS s k (k / 16) = x) := ⟨_, rfl⟩
          rw [HX.out] at hcell hx
          obtain ⟨hx0, hx1⟩ := hx
          have HR : Hid (digR c = z) := by show _ = _; unfold digR; rw [HZ.out, if_neg hneg]
          have HO : Hid (IntKind.u64.wrap (IntKind.u64.wrap (x * 16) + z) = x * 16 % 18446744073709551616 + z) := by
            show _ = _
            rw [u64_wrap, u64_wrap]
            omega
          clear hW
          have hi3 : ((k : Int) / 16).toNat = k / 16 := by omega
          have hi1 : (0 : Int) ≤ (k : Int) / 16 := by omega
          have hi2 : (k : Int) / 16 < 8 := by omega
          have hz16 : (z == 16) = false := by simp; omega
          go_wp2_with fail
          refine (refDigit_any c _).mono ?_; rintro e w' ⟨rfl, rfl⟩
          rw [HR.out]
          go_wp2_with fail
          go_roundw
          case rel =>
            refine ⟨k + 1, by omega, by go_num, by simpa [World.setCell] using hsz, fun j hj => ?_, ?_, ?_, ?_⟩
            · by_cases hjk : j = k
              · subst hjk; exact HB.out
              · exact HG.out j (by omega)
            · exact (heap_setCell_ne _ _ _ _ (by simp)).trans HH.out.1
            · refine set_blk HH.out.2.1 (k / 16) (by omega) _ ?_ ?_
              · rw [HN.out z HZ.out, HO.out]
                simp only [if_true]
                rw [HX.out]
              · intro j hj
                rw [HN.out z HZ.out]
                simp only [if_neg hj]
            · exact HH.out.2.2.setCell (by simp) _
          case measure => simp [intOf]; omega
      · have hk1 : ((k : Int) == (s.size : Int)) = true := by
          have h : k = s.size := by
            rcases Nat.eq_zero_or_pos k with h0 | h0
            · omega
            · have h1 := HG.out (k - 1) (by omega)
              simp [badP] at h1
              omega
          rw [h]; simp
        have HB : Hid (badP s k = true) := by show badP s k = true; unfold badP; simp; left; omega
        have HP := Lib.hid (pr_bad hlt HG.out HB.out)
        go_wp2_with fail
        refine bodyPost_ret (v := .tuple #[(.agg #[.int .u64 (noS 0), .int .u64 (noS 1), .int .u64 (noS 2), .int .u64 (noS 3), .int .u64 (noS 4), .int .u64 (noS 5), .int .u64 (noS 6), .int .u64 (noS 7)]), .int .i64 9, .int .i64 k]) (by simp [results, Tryd.results34, go_sem, d0, d1, d2, d3, d4, d5, d6, d7, noS]) rfl ⟨?_, ?_⟩
        · exact ret_parse (fun j _ => by rw [HP.out.1]) HP.out.2.1.symm HP.out.2.2.symm
        · exact set8_below HH.out.2.2 _ (by omega) _ _ _ _ _ _ _ _
    · obtain rfl : k = 128 := by omega
      have h127 := HG.out 127 (by omega)
      simp [badP] at h127
      obtain ⟨h127, _⟩ := h127
      by_cases hs : 128 < s.size
      · have HP := Lib.hid (pr_long HG.out hs)
        go_wp2_with fail
        refine bodyPost_ret (v := .tuple #[(.agg #[.int .u64 (noS 0), .int .u64 (noS 1), .int .u64 (noS 2), .int .u64 (noS 3), .int .u64 (noS 4), .int .u64 (noS 5), .int .u64 (noS 6), .int .u64 (noS 7)]), .int .i64 9, .int .i64 128]) (by simp [results, Tryd.results34, go_sem, d0, d1, d2, d3, d4, d5, d6, d7, noS]) rfl ⟨?_, ?_⟩
        · exact ret_parse (fun j _ => by rw [HP.out.1]) HP.out.2.1.symm HP.out.2.2.symm
        · exact set8_below HH.out.2.2 _ (by omega) _ _ _ _ _ _ _ _
      · have HP := Lib.hid (pr_good HG.out (by omega))
        obtain ⟨q, HQ⟩ : ∃ q, Hid (pwS s 128 = q) := ⟨_, rfl⟩
        have hq := HH.out.2.1
        rw [HQ.out] at hq
        obtain ⟨e0, e1, e2, e3, e4, e5, e6, e7, ez⟩ := blk_facts hq
        clear hq
        go_wp2_with fail
        refine bodyPost_ret (v := .tuple #[(.agg #[.int .u64 (q 0), .int .u64 (q 1), .int .u64 (q 2), .int .u64 (q 3), .int .u64 (q 4), .int .u64 (q 5), .int .u64 (q 6), .int .u64 (q 7)]), .int .i64 0, .int .i64 0]) (by simp [results, Tryd.results34, go_sem, d0, d1, d2, d3, d4, d5, d6, d7]) rfl ⟨?_, ?_⟩
        · exact ret_parse (fun j _ => by rw [HP.out.1, HQ.out]) HP.out.2.1.symm HP.out.2.2.symm
        · exact set8_below HH.out.2.2 _ (by omega) _ _ _ _ _ _ _ _
end Go.Proofs.YtcnkoiogfhggeaaDoor
