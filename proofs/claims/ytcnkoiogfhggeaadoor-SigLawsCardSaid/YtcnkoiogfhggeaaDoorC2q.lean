/- Contracts of layer 2: Parse, by the program and by the reference. -/
import Derived.Test.YtcnkoiogfhggeaaDoorC2p
import Derived.Test.YtcnkoiogfhggeaaDoorS2e
import Derived.Lib.TrailingZeros
namespace Go.Proofs.YtcnkoiogfhggeaaDoor
open Go.RowKit
set_option linter.unusedVariables false
theorem digit_any (c : Int) (h0 : 0 ≤ c) (h1 : c < 256) (w : World) : Calls Tryd.prog 41 #[.int .u8 c] w fun e w' => e = .returned (.int .i64 (digZ c)) ∧ w = w' := by
  have HD : Hid (digZ c = if 48 ≤ c ∧ c ≤ 57 then c - 48 else if 97 ≤ c ∧ c ≤ 102 then c - 87 else -1) := rfl
  by_cases a : 48 ≤ c
  · by_cases b : c ≤ 57
    · go_enter Tryd.func41, Tryd.ntmps41
      go_wp2
      go_ret
      exact ⟨ret_i64 (by rw [HD.out, if_pos ⟨a, b⟩]), rfl⟩
    · by_cases a2 : 97 ≤ c
      · by_cases b2 : c ≤ 102
        · go_enter Tryd.func41, Tryd.ntmps41
          go_wp2
          go_ret
          exact ⟨ret_i64 (by rw [HD.out, if_neg (by omega), if_pos ⟨a2, b2⟩]; omega), rfl⟩
        · go_enter Tryd.func41, Tryd.ntmps41
          go_wp2
          go_ret
          exact ⟨ret_i64 (by rw [HD.out, if_neg (by omega), if_neg (by omega)]), rfl⟩
      · go_enter Tryd.func41, Tryd.ntmps41
        go_wp2
        go_ret
        exact ⟨ret_i64 (by rw [HD.out, if_neg (by omega), if_neg (by omega)]), rfl⟩
  · have b2 : ¬ 97 ≤ c := by omega
    go_enter Tryd.func41, Tryd.ntmps41
    go_wp2
    go_ret
    exact ⟨ret_i64 (by rw [HD.out, if_neg (by omega), if_neg (by omega)]), rfl⟩
def digR (c : Int) : Int := if digZ c < 0 then 16 else digZ c
theorem digR_found (k : Nat) (h : k < 16) : digR (hexd k) = k := by unfold digR; rw [digZ_hexd k h, if_neg (by omega)]
theorem digR_none (c : Int) (h : ∀ j, j < 16 → hexd j ≠ c) : digR c = 16 := by
  unfold digR
  rw [if_pos]
  unfold digZ
  split
  · rename_i hc
    exfalso
    apply h (c - 48).toNat (by omega)
    unfold hexd
    rw [if_pos (by omega)]; omega
  · split
    · rename_i hc
      exfalso
      apply h (c - 87).toNat (by omega)
      unfold hexd
      rw [if_neg (by omega)]; omega
    · omega
theorem hex_index64 (d : Nat) (hd : d < 16) (w : World) : (Instr.index 9 (.string ⟨#[48, 49, 50, 51, 52, 53, 54, 55, 56, 57, 97, 98, 99, 100, 101, 102]⟩) (.int .i64 d)).run Tryd.prog w = .ok (.int .u8 (hexd d)) w := by
  rw [run_index_string w 9 _ .i64 d Tryd.underlying9, dif_pos ⟨by omega, by show (d : Int) < ((16 : Nat) : Int); omega⟩]
  rcases (show d = 0 ∨ d = 1 ∨ d = 2 ∨ d = 3 ∨ d = 4 ∨ d = 5 ∨ d = 6 ∨ d = 7 ∨ d = 8 ∨ d = 9 ∨ d = 10 ∨ d = 11 ∨ d = 12 ∨ d = 13 ∨ d = 14 ∨ d = 15 by omega) with rfl | rfl | rfl | rfl | rfl | rfl | rfl | rfl | rfl | rfl | rfl | rfl | rfl | rfl | rfl | rfl <;> rfl
theorem refDigit_any (c : Int) (w : World) : Calls Tryd.prog 42 #[.int .u8 c] w fun e w' => e = .returned (.int .u64 (digR c)) ∧ w = w' := by
  go_enter Tryd.func42, Tryd.ntmps42
  go_wp2_with fail
  go_loop [3] (fun i => ∃ k : Nat, k ≤ 16 ∧ i = .int .i64 k ∧ Hid (∀ j, j < k → hexd j ≠ c)) (fun i => 16 - (intOf i).toNat)
  case atStart => exact ⟨0, by omega, rfl, fun j hj => by omega⟩
  case round =>
    obtain ⟨k, hk, rfl, HH⟩ := hrel
    by_cases hlt : k < 16
    · obtain ⟨d, HD⟩ : ∃ d, Hid (hexd k = d) := ⟨_, rfl⟩
      have hix := hex_index64 k hlt
      rw [HD.out] at hix
      by_cases hdc : d = c
      · have hb : (d == c) = true := by simp [hdc]
        have HC := Lib.hid hdc
        clear hdc
        go_wp2
        go_ret
        exact ⟨ret_u64 (by rw [← HC.out, ← HD.out, digR_found k hlt]), rfl⟩
      · have hb : (d == c) = false := by simp [hdc]
        have HC := Lib.hid hdc
        clear hdc
        go_wp2
        go_round
        case rel =>
          refine ⟨k + 1, by omega, by go_num, fun j hj => ?_⟩
          by_cases hjk : j = k
          · subst hjk; rw [HD.out]; exact HC.out
          · exact HH.out j (by omega)
        case measure => simp [intOf]; omega
    · obtain rfl : k = 16 := by omega
      go_wp2
      go_ret
      exact ⟨ret_u64 (digR_none c HH.out).symm, rfl⟩
theorem cell_of_blk {w : World} {b : Nat} {s : Nat → Int} {T : TypeId} (h : w.heap[b]? = some (.cells #[.int .u64 (s 0), .int .u64 (s 1), .int .u64 (s 2), .int .u64 (s 3), .int .u64 (s 4), .int .u64 (s 5), .int .u64 (s 6), .int .u64 (s 7)] T)) (i : Nat) (hi : i < 8) : w.cell? ⟨b, i, none⟩ = some (.int .u64 (s i)) := by
  obtain ⟨s0, s1, s2, s3, s4, s5, s6, s7, _⟩ := blk_facts h
  match i, hi with
  | 0, _ => exact s0
  | 1, _ => exact s1
  | 2, _ => exact s2
  | 3, _ => exact s3
  | 4, _ => exact s4
  | 5, _ => exact s5
  | 6, _ => exact s6
  | 7, _ => exact s7
theorem set_blk {w : World} {b : Nat} {s t : Nat → Int} {T : TypeId} (h : w.heap[b]? = some (.cells #[.int .u64 (s 0), .int .u64 (s 1), .int .u64 (s 2), .int .u64 (s 3), .int .u64 (s 4), .int .u64 (s 5), .int .u64 (s 6), .int .u64 (s 7)] T)) (i : Nat) (hi : i < 8) (x : Int) (hx : t i = x) (ht : ∀ j, j ≠ i → t j = s j) :
    (w.setCell ⟨b, i, none⟩ (.int .u64 x)).heap[b]? = some (.cells #[.int .u64 (t 0), .int .u64 (t 1), .int .u64 (t 2), .int .u64 (t 3), .int .u64 (t 4), .int .u64 (t 5), .int .u64 (t 6), .int .u64 (t 7)] T) := by
  rw [heap_setCell_eq _ _ _ _ _ _ _ h]
  subst hx
  match i, hi with
  | 0, _ => simp [ht 1, ht 2, ht 3, ht 4, ht 5, ht 6, ht 7]
  | 1, _ => simp [ht 0, ht 2, ht 3, ht 4, ht 5, ht 6, ht 7]
  | 2, _ => simp [ht 0, ht 1, ht 3, ht 4, ht 5, ht 6, ht 7]
  | 3, _ => simp [ht 0, ht 1, ht 2, ht 4, ht 5, ht 6, ht 7]
  | 4, _ => simp [ht 0, ht 1, ht 2, ht 3, ht 5, ht 6, ht 7]
  | 5, _ => simp [ht 0, ht 1, ht 2, ht 3, ht 4, ht 6, ht 7]
  | 6, _ => simp [ht 0, ht 1, ht 2, ht 3, ht 4, ht 5, ht 7]
  | 7, _ => simp [ht 0, ht 1, ht 2, ht 3, ht 4, ht 5, ht 6]
theorem chr_run (s : ByteArray) (k : Nat) (hk : k < s.size) (w : World) : (Instr.index 9 (.string s) (.int .i64 k)).run Tryd.prog w = .ok (.int .u8 (chrS s k)) w := by
  rw [run_index_string w 9 s .i64 k Tryd.underlying9, dif_pos ⟨by omega, by simpa using hk⟩]
  unfold chrS
  rw [dif_pos hk]
  rfl
theorem ret_parse {r t : Nat → Int} {x x' y y' : Int} (h : ∀ j, j < 8 → r j = t j) (hx : x = x') (hy : y = y') : Ending.returned (.tuple #[(.agg #[.int .u64 (r 0), .int .u64 (r 1), .int .u64 (r 2), .int .u64 (r 3), .int .u64 (r 4), .int .u64 (r 5), .int .u64 (r 6), .int .u64 (r 7)]), .int .i64 x, .int .i64 y]) = .returned (.tuple #[(.agg #[.int .u64 (t 0), .int .u64 (t 1), .int .u64 (t 2), .int .u64 (t 3), .int .u64 (t 4), .int .u64 (t 5), .int .u64 (t 6), .int .u64 (t 7)]), .int .i64 x', .int .i64 y']) := by
  rw [h 0 (by omega), h 1 (by omega), h 2 (by omega), h 3 (by omega), h 4 (by omega), h 5 (by omega), h 6 (by omega), h 7 (by omega), hx, hy]
set_option maxRecDepth 100000 in
set_option maxHeartbeats 2000000 in
theorem parse_any (s : ByteArray) (hm : s.size ≤ 9223372036854775807) (w : World) : Calls Tryd.prog 33 #[.string s] w fun e w' => e = .returned (.tuple #[(.agg #[.int .u64 ((prS s) 0), .int .u64 ((prS s) 1), .int .u64 ((prS s) 2), .int .u64 ((prS s) 3), .int .u64 ((prS s) 4), .int .u64 ((prS s) 5), .int .u64 ((prS s) 6), .int .u64 ((prS s) 7)]), .int .i64 (prE s), .int .i64 (prA s)]) ∧ Below w.heap.size w w' := by
  go_enter Tryd.func33, Tryd.ntmps33
  go_wp2_with fail
  go_loopw [6, 7] (fun _ i wr => ∃ k : Nat, k ≤ 128 ∧ i = .int .i64 k ∧ w.heap.size + 2 ≤ wr.heap.size ∧ Hid (∀ j, j < k → badP s j = false) ∧ Hid (wr.heap[w.heap.size]? = some (.cells #[.int .u64 (noS 0), .int .u64 (noS 1), .int .u64 (noS 2), .int .u64 (noS 3), .int .u64 (noS 4), .int .u64 (noS 5), .int .u64 (noS 6), .int .u64 (noS 7)] 25) ∧ wr.heap[w.heap.size + 1]? = some (.cells #[.int .u64 ((pwS s k) 0), .int .u64 ((pwS s k) 1), .int .u64 ((pwS s k) 2), .int .u64 ((pwS s k) 3), .int .u64 ((pwS s k) 4), .int .u64 ((pwS s k) 5), .int .u64 ((pwS s k) 6), .int .u64 ((pwS s k) 7)] 25) ∧ Below w.heap.size w wr)) (fun _ i _ => 128 - (intOf i).toNat)
  case atStart => exact ⟨0, by omega, rfl, by simp, fun j hj => by omega, heap2_0 w _ _, heap2_1 w _ _, ((Below.refl _ _).alloc (Nat.le_refl _) _).alloc (by simp) _⟩
  case round =>
    obtain ⟨k, hk, rfl, hsz, HG, HH⟩ := hrel
    obtain ⟨d0, d1, d2, d3, d4, d5, d6, d7, dz⟩ := blk_facts HH.out.1
    by_cases hlt : k < 128
    · by_cases hks : k < s.size
      · obtain ⟨c, HC⟩ : ∃ c, Hid (chrS s k = c) := ⟨_, rfl⟩
        have hix := chr_run s k hks
        rw [HC.out] at hix
        have hcr : 0 ≤ c ∧ c < 256 := by rw [← HC.out]; exact chrS_range s k
        obtain ⟨hc0, hc1⟩ := hcr
        have hdr := digZ_range c
        by_cases hneg : digZ c < 0
        · have HB : Hid (badP s k = true) := by show badP s k = true; unfold badP; rw [HC.out]; simp [hneg]
          have HP := Lib.hid (pr_bad hlt HG.out HB.out)
          obtain ⟨z, HZ⟩ : ∃ z, Hid (digZ c = z) := ⟨_, rfl⟩
          rw [HZ.out] at hneg hdr
          have hk1 : ((k : Int) == (s.size : Int)) = false := by simp; omega
          go_wp2_with fail
          refine (digit_any c hc0 hc1 _).mono ?_; rintro e w' ⟨rfl, rfl⟩
          rw [HZ.out]
          go_wp2_with fail
          refine bodyPost_ret (v := .tuple #[(.agg #[.int .u64 (noS 0), .int .u64 (noS 1), .int .u64 (noS 2), .int .u64 (noS 3), .int .u64 (noS 4), .int .u64 (noS 5), .int .u64 (noS 6), .int .u64 (noS 7)]), .int .i64 9, .int .i64 k]) (by simp [results, Tryd.results33, go_sem, d0, d1, d2, d3, d4, d5, d6, d7, noS]) rfl ⟨?_, ?_⟩
          · exact ret_parse (fun j _ => by rw [HP.out.1]) HP.out.2.1.symm HP.out.2.2.symm
          · exact set8_below HH.out.2.2 _ (by omega) _ _ _ _ _ _ _ _
        · have hk1 : ((k : Int) == (s.size : Int)) = false := by simp; omega
          have HB : Hid (badP s k = false) := by show badP s k = false; unfold badP; rw [HC.out]; simp; omega
          have hcell := cell_of_blk HH.out.2.1 (k / 16) (by omega)
          have hfz := (blk_facts HH.out.2.1).2.2.2.2.2.2.2.2
          have hW := pwS_wds s k HG.out
          have hx := hW (k / 16)
          have HN : Hid (∀ z, digZ c = z → pwS s (k + 1) = fun j => if j = k / 16 then pwS s k j * 16 % 18446744073709551616 + z else pwS s k j) := by
            rintro z rfl
            rw [pwS_succ, HC.out]
          obtain ⟨z, HZ⟩ : ∃ z, Hid (digZ c = z) := ⟨_, rfl⟩
          rw [HZ.out] at hneg hdr
          obtain ⟨x, HX⟩ : ∃ x, Hid (pwS s k (k / 16) = x) := ⟨_, rfl⟩
          rw [HX.out] at hcell hx
          obtain ⟨hx0, hx1⟩ := hx
          have HO := Lib.hid (pw_or x z (by omega) hdr.2)
          clear hW
          go_wp2_with fail
          refine (digit_any c hc0 hc1 _).mono ?_; rintro e w' ⟨rfl, rfl⟩
          rw [HZ.out]
          have hi3 : ((k : Int) / 16).toNat = k / 16 := by omega
          have hi1 : (0 : Int) ≤ (k : Int) / 16 := by omega
          have hi2 : (k : Int) / 16 < 8 := by omega
          go_wp2_with fail
          go_still_tail 14, (by kernel_rfl)
          still_call ((digit_any c hc0 hc1 _).mono fun e w' ⟨h1, h2⟩ => ⟨h1, h2.symm⟩)
          rw [HZ.out]
          repeat still_step
          refine wpStill_nil ?_
          change wpList _ _ _ _ _ wr.drew
          go_wp2_with fail
          go_roundw
          case rel =>
            refine ⟨k + 1, by omega, by go_num, by simpa [World.setCell] using hsz, fun j hj => ?_, ?_, ?_, ?_⟩
            · by_cases hjk : j = k
              · subst hjk; exact HB.out
              · exact HG.out j (by omega)
            · exact (heap_setCell_ne _ _ _ _ (by simp)).trans HH.out.1
            · refine set_blk HH.out.2.1 (k / 16) (by omega) _ ?_ ?_
              · rw [HN.out z HZ.out, HO.out]
                simp only [if_true]
                rw [HX.out]
              · intro j hj
                rw [HN.out z HZ.out]
                simp only [if_neg hj]
            · exact (HH.out.2.2.setCell (by simp) _).drew
          case measure => simp [intOf]; omega
      · have hk1 : ((k : Int) == (s.size : Int)) = true := by
          have h : k = s.size := by
            rcases Nat.eq_zero_or_pos k with h0 | h0
            · omega
            · have h1 := HG.out (k - 1) (by omega)
              simp [badP] at h1
              omega
          rw [h]; simp
        have HB : Hid (badP s k = true) := by show badP s k = true; unfold badP; simp; left; omega
        have HP := Lib.hid (pr_bad hlt HG.out HB.out)
        go_wp2_with fail
        refine bodyPost_ret (v := .tuple #[(.agg #[.int .u64 (noS 0), .int .u64 (noS 1), .int .u64 (noS 2), .int .u64 (noS 3), .int .u64 (noS 4), .int .u64 (noS 5), .int .u64 (noS 6), .int .u64 (noS 7)]), .int .i64 9, .int .i64 k]) (by simp [results, Tryd.results33, go_sem, d0, d1, d2, d3, d4, d5, d6, d7, noS]) rfl ⟨?_, ?_⟩
        · exact ret_parse (fun j _ => by rw [HP.out.1]) HP.out.2.1.symm HP.out.2.2.symm
        · exact set8_below HH.out.2.2 _ (by omega) _ _ _ _ _ _ _ _
    · obtain rfl : k = 128 := by omega
      have h127 := HG.out 127 (by omega)
      simp [badP] at h127
      obtain ⟨h127, _⟩ := h127
      by_cases hs : 128 < s.size
      · have HP := Lib.hid (pr_long HG.out hs)
        go_wp2_with fail
        refine bodyPost_ret (v := .tuple #[(.agg #[.int .u64 (noS 0), .int .u64 (noS 1), .int .u64 (noS 2), .int .u64 (noS 3), .int .u64 (noS 4), .int .u64 (noS 5), .int .u64 (noS 6), .int .u64 (noS 7)]), .int .i64 9, .int .i64 128]) (by simp [results, Tryd.results33, go_sem, d0, d1, d2, d3, d4, d5, d6, d7, noS]) rfl ⟨?_, ?_⟩
        · exact ret_parse (fun j _ => by rw [HP.out.1]) HP.out.2.1.symm HP.out.2.2.symm
        · exact set8_below HH.out.2.2 _ (by omega) _ _ _ _ _ _ _ _
      · have HP := Lib.hid (pr_good HG.out (by omega))
        obtain ⟨q, HQ⟩ : ∃ q, Hid (pwS s 128 = q) := ⟨_, rfl⟩
        have hq := HH.out.2.1
        rw [HQ.out] at hq
        obtain ⟨e0, e1, e2, e3, e4, e5, e6, e7, ez⟩ := blk_facts hq
        clear hq
        go_wp2_with fail
        refine bodyPost_ret (v := .tuple #[(.agg #[.int .u64 (q 0), .int .u64 (q 1), .int .u64 (q 2), .int .u64 (q 3), .int .u64 (q 4), .int .u64 (q 5), .int .u64 (q 6), .int .u64 (q 7)]), .int .i64 0, .int .i64 0]) (by simp [results, Tryd.results33, go_sem, d0, d1, d2, d3, d4, d5, d6, d7]) rfl ⟨?_, ?_⟩
        · exact ret_parse (fun j _ => by rw [HP.out.1, HQ.out]) HP.out.2.1.symm HP.out.2.2.symm
        · exact set8_below HH.out.2.2 _ (by omega) _ _ _ _ _ _ _ _
end Go.Proofs.YtcnkoiogfhggeaaDoor
