/- The walk of SigTexts. -/
import Derived.Test.YtcnkoiogfhggeaaDoorC2s
namespace Go.Proofs.YtcnkoiogfhggeaaDoor
open Go.RowKit
set_option linter.unusedVariables false
set_option maxRecDepth 100000 in
set_option maxHeartbeats 4000000 in
theorem sigTexts_law {w : World} (s : Nat → Int) (hs : Wds s) (t : ByteArray) (ht : t.size ≤ 9223372036854775807) (hT : Tab w) :
    Calls Tryd.prog 8 #[(.agg #[.int .u64 (s 0), .int .u64 (s 1), .int .u64 (s 2), .int .u64 (s 3), .int .u64 (s 4), .int .u64 (s 5), .int .u64 (s 6), .int .u64 (s 7)]), .string t] w fun e w' => e = .returned (.bool true) ∧ Below w.heap.size w w' := by
  have HS := Lib.hid hs
  have HT := Lib.hid hT
  clear hs hT
  have heq := run_sig_eq
  go_enter Tryd.func8, Tryd.ntmps8
  go_wp2_with fail
  refine (shown2_any _ (HT.out.below ((Below.refl w.heap.size w).alloc (Nat.le_refl _) _) HT.out.pos)).mono ?_
  rintro e w1 ⟨rfl, hb⟩
  have hz1 := hb.size
  simp only [World.size_alloc] at hz1
  have HX1 : Hid (w1.heap[w.heap.size]? = some (.cells #[.int .u64 (s 0), .int .u64 (s 1), .int .u64 (s 2), .int .u64 (s 3), .int .u64 (s 4), .int .u64 (s 5), .int .u64 (s 6), .int .u64 (s 7)] 25) ∧ Below w.heap.size w w1) := ⟨(hb.block _ (by simp)).trans (heap1_0 w _), ((Below.refl _ _).alloc (Nat.le_refl _) _).trans (hb.mono (by simp))⟩
  clear hb  
  obtain ⟨s0, s1, s2, s3, s4, s5, s6, s7, sz⟩ := blk_facts (HX1.out.1)
  go_wp2_with fail
  refine (text_any s HS.out _).mono ?_
  rintro e w2 ⟨rfl, hb⟩
  have hz2 := hb.size
  have HX2 : Hid (w2.heap[w.heap.size]? = some (.cells #[.int .u64 (s 0), .int .u64 (s 1), .int .u64 (s 2), .int .u64 (s 3), .int .u64 (s 4), .int .u64 (s 5), .int .u64 (s 6), .int .u64 (s 7)] 25) ∧ Below w.heap.size w w2) := ⟨(hb.block _ (by omega)).trans HX1.out.1, HX1.out.2.trans (hb.mono (by omega))⟩
  clear hb s0 s1 s2 s3 s4 s5 s6 s7 sz HX1
  obtain ⟨s0, s1, s2, s3, s4, s5, s6, s7, sz⟩ := blk_facts (HX2.out.1)
  go_wp2_with fail
  refine (refText_any s HS.out _).mono ?_
  rintro e w3 ⟨rfl, hb⟩
  have hz3 := hb.size
  have HX3 : Hid (w3.heap[w.heap.size]? = some (.cells #[.int .u64 (s 0), .int .u64 (s 1), .int .u64 (s 2), .int .u64 (s 3), .int .u64 (s 4), .int .u64 (s 5), .int .u64 (s 6), .int .u64 (s 7)] 25) ∧ Below w.heap.size w w3) := ⟨(hb.block _ (by omega)).trans HX2.out.1, HX2.out.2.trans (hb.mono (by omega))⟩
  clear hb s0 s1 s2 s3 s4 s5 s6 s7 sz HX2
  go_wp2_with fail
  refine (parse_any t ht _).mono ?_
  rintro e w4 ⟨rfl, hb⟩
  have hz4 := hb.size
  have HX4 : Hid (w4.heap[w.heap.size]? = some (.cells #[.int .u64 (s 0), .int .u64 (s 1), .int .u64 (s 2), .int .u64 (s 3), .int .u64 (s 4), .int .u64 (s 5), .int .u64 (s 6), .int .u64 (s 7)] 25) ∧ Below w.heap.size w w4) := ⟨(hb.block _ (by omega)).trans HX3.out.1, HX3.out.2.trans (hb.mono (by omega))⟩
  clear hb  HX3
  go_wp2_with fail
  refine (refParse_any t ht _).mono ?_
  rintro e w5 ⟨rfl, hb⟩
  have hz5 := hb.size
  simp only [World.size_alloc] at hz5
  have HX5 : Hid (w5.heap[w.heap.size]? = some (.cells #[.int .u64 (s 0), .int .u64 (s 1), .int .u64 (s 2), .int .u64 (s 3), .int .u64 (s 4), .int .u64 (s 5), .int .u64 (s 6), .int .u64 (s 7)] 25) ∧ w5.heap[w4.heap.size]? = some (.cells #[.int .u64 ((prS t) 0), .int .u64 ((prS t) 1), .int .u64 ((prS t) 2), .int .u64 ((prS t) 3), .int .u64 ((prS t) 4), .int .u64 ((prS t) 5), .int .u64 ((prS t) 6), .int .u64 ((prS t) 7)] 25) ∧ Below w.heap.size w w5) := ⟨(hb.block _ (by simp; omega)).trans (blk_alloc HX4.out.1 _), (hb.block _ (by simp)).trans (heap1_0 _ _), (HX4.out.2.alloc (by omega) _).trans (hb.mono (by simp; omega))⟩
  clear hb  HX4
  obtain ⟨p0, p1, p2, p3, p4, p5, p6, p7, pz⟩ := blk_facts (blk_alloc HX5.out.2.1 (.cells #[.int .u64 ((prS t) 0), .int .u64 ((prS t) 1), .int .u64 ((prS t) 2), .int .u64 ((prS t) 3), .int .u64 ((prS t) 4), .int .u64 ((prS t) 5), .int .u64 ((prS t) 6), .int .u64 ((prS t) 7)] 25))
  obtain ⟨q0, q1, q2, q3, q4, q5, q6, q7, qz⟩ := blk_facts (heap1_0 w5 (.cells #[.int .u64 ((prS t) 0), .int .u64 ((prS t) 1), .int .u64 ((prS t) 2), .int .u64 ((prS t) 3), .int .u64 ((prS t) 4), .int .u64 ((prS t) 5), .int .u64 ((prS t) 6), .int .u64 ((prS t) 7)] 25))
  go_wp2_with fail
  go_ret
  exact ⟨ret_bool (by simp), (HX5.out.2.2.alloc (by omega) _)⟩
end Go.Proofs.YtcnkoiogfhggeaaDoor
