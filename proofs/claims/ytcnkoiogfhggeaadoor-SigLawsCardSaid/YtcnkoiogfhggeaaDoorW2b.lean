/- The walk of SigHolds. -/
import Derived.Test.YtcnkoiogfhggeaaDoorW2
namespace Go.Proofs.YtcnkoiogfhggeaaDoor
open Go.RowKit
set_option linter.unusedVariables false
set_option maxRecDepth 100000 in
set_option maxHeartbeats 4000000 in
theorem sigHolds_law {w : World} (a : Option Addr) (len cap : Nat) (zs : List Int) (hi : IntsAt w a len zs) (hlc : len ≤ cap) (hcm : cap ≤ maxLen) (hz : ∀ n ∈ zs, (Lit.int .i64 n).wf = true) (s : Nat → Int) (hs : Wds s) (c : Int) (hc : (Lit.int .i64 c).wf = true) (hT : Tab w) :
    Calls Tryd.prog 3 #[.slice a len cap, (.agg #[.int .u64 (s 0), .int .u64 (s 1), .int .u64 (s 2), .int .u64 (s 3), .int .u64 (s 4), .int .u64 (s 5), .int .u64 (s 6), .int .u64 (s 7)]), .int .i64 c] w fun e w' => e = .returned (.bool true) ∧ Below w.heap.size w w' := by
  have HS := Lib.hid hs
  have HT := Lib.hid hT
  have HI := Lib.hid hi
  have HL : Hid (len ≤ 9223372036854775807) := by have h : maxLen ≤ 9223372036854775807 := by decide +kernel
                                                  exact Nat.le_trans hlc (Nat.le_trans hcm h)
  clear hs hT hi hlc hcm hz hc
  have heq := run_sig_eq
  go_enter Tryd.func3, Tryd.ntmps3
  go_wp2_with fail
  refine (shown2_any _ (HT.out.below ((Below.refl w.heap.size w).alloc (Nat.le_refl _) _) HT.out.pos)).mono ?_
  rintro e w1 ⟨rfl, hb⟩
  have hz1 := hb.size
  simp only [World.size_alloc] at hz1
  have HX1 : Hid (w1.heap[w.heap.size]? = some (.cells #[.int .u64 (s 0), .int .u64 (s 1), .int .u64 (s 2), .int .u64 (s 3), .int .u64 (s 4), .int .u64 (s 5), .int .u64 (s 6), .int .u64 (s 7)] 25) ∧ Below w.heap.size w w1) := ⟨(hb.block _ (by simp)).trans (heap1_0 w _), ((Below.refl _ _).alloc (Nat.le_refl _) _).trans (hb.mono (by simp))⟩
  clear hb  
  go_wp2_with fail
  refine (of_any a len cap zs _ (HI.out.below HX1.out.2) HL.out).mono ?_
  rintro e w2 ⟨rfl, hb⟩
  have hz2 := hb.size
  have HX2 : Hid (w2.heap[w.heap.size]? = some (.cells #[.int .u64 (s 0), .int .u64 (s 1), .int .u64 (s 2), .int .u64 (s 3), .int .u64 (s 4), .int .u64 (s 5), .int .u64 (s 6), .int .u64 (s 7)] 25) ∧ Below w.heap.size w w2) := ⟨(hb.block _ (by omega)).trans HX1.out.1, HX1.out.2.trans (hb.mono (by omega))⟩
  clear hb  HX1
  go_wp2_with fail
  refine (refOf_any a len cap zs _ (HI.out.below (HX2.out.2.alloc (by omega) _)) HL.out).mono ?_
  rintro e w3 ⟨rfl, hb⟩
  have hz3 := hb.size
  simp only [World.size_alloc] at hz3
  have HX3 : Hid (w3.heap[w.heap.size]? = some (.cells #[.int .u64 (s 0), .int .u64 (s 1), .int .u64 (s 2), .int .u64 (s 3), .int .u64 (s 4), .int .u64 (s 5), .int .u64 (s 6), .int .u64 (s 7)] 25) ∧ w3.heap[w2.heap.size]? = some (.cells #[.int .u64 (ofS zs 0), .int .u64 (ofS zs 1), .int .u64 (ofS zs 2), .int .u64 (ofS zs 3), .int .u64 (ofS zs 4), .int .u64 (ofS zs 5), .int .u64 (ofS zs 6), .int .u64 (ofS zs 7)] 25) ∧ Below w.heap.size w w3) := ⟨(hb.block _ (by simp; omega)).trans (blk_alloc HX2.out.1 _), (hb.block _ (by simp)).trans (heap1_0 _ _), (HX2.out.2.alloc (by omega) _).trans (hb.mono (by simp; omega))⟩
  clear hb  HX2
  obtain ⟨s0, s1, s2, s3, s4, s5, s6, s7, sz⟩ := blk_facts (blk_alloc HX3.out.1 (.cells #[.int .u64 (ofS zs 0), .int .u64 (ofS zs 1), .int .u64 (ofS zs 2), .int .u64 (ofS zs 3), .int .u64 (ofS zs 4), .int .u64 (ofS zs 5), .int .u64 (ofS zs 6), .int .u64 (ofS zs 7)] 25))
  go_wp2_with fail
  refine (with_any s HS.out c _).mono ?_
  rintro e w4 ⟨rfl, hb⟩
  have hz4 := hb.size
  simp only [World.size_alloc] at hz4
  have HX4 : Hid (w4.heap[w.heap.size]? = some (.cells #[.int .u64 (s 0), .int .u64 (s 1), .int .u64 (s 2), .int .u64 (s 3), .int .u64 (s 4), .int .u64 (s 5), .int .u64 (s 6), .int .u64 (s 7)] 25) ∧ w4.heap[w2.heap.size]? = some (.cells #[.int .u64 (ofS zs 0), .int .u64 (ofS zs 1), .int .u64 (ofS zs 2), .int .u64 (ofS zs 3), .int .u64 (ofS zs 4), .int .u64 (ofS zs 5), .int .u64 (ofS zs 6), .int .u64 (ofS zs 7)] 25) ∧ w4.heap[w3.heap.size]? = some (.cells #[.int .u64 (ofS zs 0), .int .u64 (ofS zs 1), .int .u64 (ofS zs 2), .int .u64 (ofS zs 3), .int .u64 (ofS zs 4), .int .u64 (ofS zs 5), .int .u64 (ofS zs 6), .int .u64 (ofS zs 7)] 25) ∧ Below w.heap.size w w4) := ⟨(hb.block _ (by simp; omega)).trans (blk_alloc HX3.out.1 _), (hb.block _ (by simp; omega)).trans (blk_alloc HX3.out.2.1 _), (hb.block _ (by simp)).trans (heap1_0 _ _), (HX3.out.2.2.alloc (by omega) _).trans (hb.mono (by simp; omega))⟩
  clear hb s0 s1 s2 s3 s4 s5 s6 s7 sz HX3
  obtain ⟨s0, s1, s2, s3, s4, s5, s6, s7, sz⟩ := blk_facts (blk_alloc HX4.out.1 (.cells #[.int .u64 (withS s c 0), .int .u64 (withS s c 1), .int .u64 (withS s c 2), .int .u64 (withS s c 3), .int .u64 (withS s c 4), .int .u64 (withS s c 5), .int .u64 (withS s c 6), .int .u64 (withS s c 7)] 25))
  go_wp2_with fail
  refine (refWith_any s HS.out c _).mono ?_
  rintro e w5 ⟨rfl, hb⟩
  have hz5 := hb.size
  simp only [World.size_alloc] at hz5
  have HX5 : Hid (w5.heap[w.heap.size]? = some (.cells #[.int .u64 (s 0), .int .u64 (s 1), .int .u64 (s 2), .int .u64 (s 3), .int .u64 (s 4), .int .u64 (s 5), .int .u64 (s 6), .int .u64 (s 7)] 25) ∧ w5.heap[w2.heap.size]? = some (.cells #[.int .u64 (ofS zs 0), .int .u64 (ofS zs 1), .int .u64 (ofS zs 2), .int .u64 (ofS zs 3), .int .u64 (ofS zs 4), .int .u64 (ofS zs 5), .int .u64 (ofS zs 6), .int .u64 (ofS zs 7)] 25) ∧ w5.heap[w3.heap.size]? = some (.cells #[.int .u64 (ofS zs 0), .int .u64 (ofS zs 1), .int .u64 (ofS zs 2), .int .u64 (ofS zs 3), .int .u64 (ofS zs 4), .int .u64 (ofS zs 5), .int .u64 (ofS zs 6), .int .u64 (ofS zs 7)] 25) ∧ w5.heap[w4.heap.size]? = some (.cells #[.int .u64 (withS s c 0), .int .u64 (withS s c 1), .int .u64 (withS s c 2), .int .u64 (withS s c 3), .int .u64 (withS s c 4), .int .u64 (withS s c 5), .int .u64 (withS s c 6), .int .u64 (withS s c 7)] 25) ∧ Below w.heap.size w w5) := ⟨(hb.block _ (by simp; omega)).trans (blk_alloc HX4.out.1 _), (hb.block _ (by simp; omega)).trans (blk_alloc HX4.out.2.1 _), (hb.block _ (by simp; omega)).trans (blk_alloc HX4.out.2.2.1 _), (hb.block _ (by simp)).trans (heap1_0 _ _), (HX4.out.2.2.2.alloc (by omega) _).trans (hb.mono (by simp; omega))⟩
  clear hb s0 s1 s2 s3 s4 s5 s6 s7 sz HX4
  obtain ⟨s0, s1, s2, s3, s4, s5, s6, s7, sz⟩ := blk_facts (blk_alloc HX5.out.1 (.cells #[.int .u64 (withS s c 0), .int .u64 (withS s c 1), .int .u64 (withS s c 2), .int .u64 (withS s c 3), .int .u64 (withS s c 4), .int .u64 (withS s c 5), .int .u64 (withS s c 6), .int .u64 (withS s c 7)] 25))
  go_wp2_with fail
  refine (has_any s HS.out c _).mono ?_
  rintro e w6 ⟨rfl, hb⟩
  have hz6 := hb.size
  simp only [World.size_alloc] at hz6
  have HX6 : Hid (w6.heap[w.heap.size]? = some (.cells #[.int .u64 (s 0), .int .u64 (s 1), .int .u64 (s 2), .int .u64 (s 3), .int .u64 (s 4), .int .u64 (s 5), .int .u64 (s 6), .int .u64 (s 7)] 25) ∧ w6.heap[w2.heap.size]? = some (.cells #[.int .u64 (ofS zs 0), .int .u64 (ofS zs 1), .int .u64 (ofS zs 2), .int .u64 (ofS zs 3), .int .u64 (ofS zs 4), .int .u64 (ofS zs 5), .int .u64 (ofS zs 6), .int .u64 (ofS zs 7)] 25) ∧ w6.heap[w3.heap.size]? = some (.cells #[.int .u64 (ofS zs 0), .int .u64 (ofS zs 1), .int .u64 (ofS zs 2), .int .u64 (ofS zs 3), .int .u64 (ofS zs 4), .int .u64 (ofS zs 5), .int .u64 (ofS zs 6), .int .u64 (ofS zs 7)] 25) ∧ w6.heap[w4.heap.size]? = some (.cells #[.int .u64 (withS s c 0), .int .u64 (withS s c 1), .int .u64 (withS s c 2), .int .u64 (withS s c 3), .int .u64 (withS s c 4), .int .u64 (withS s c 5), .int .u64 (withS s c 6), .int .u64 (withS s c 7)] 25) ∧ w6.heap[w5.heap.size]? = some (.cells #[.int .u64 (withS s c 0), .int .u64 (withS s c 1), .int .u64 (withS s c 2), .int .u64 (withS s c 3), .int .u64 (withS s c 4), .int .u64 (withS s c 5), .int .u64 (withS s c 6), .int .u64 (withS s c 7)] 25) ∧ Below w.heap.size w w6) := ⟨(hb.block _ (by simp; omega)).trans (blk_alloc HX5.out.1 _), (hb.block _ (by simp; omega)).trans (blk_alloc HX5.out.2.1 _), (hb.block _ (by simp; omega)).trans (blk_alloc HX5.out.2.2.1 _), (hb.block _ (by simp; omega)).trans (blk_alloc HX5.out.2.2.2.1 _), (hb.block _ (by simp)).trans (heap1_0 _ _), (HX5.out.2.2.2.2.alloc (by omega) _).trans (hb.mono (by simp; omega))⟩
  clear hb s0 s1 s2 s3 s4 s5 s6 s7 sz HX5
  obtain ⟨s0, s1, s2, s3, s4, s5, s6, s7, sz⟩ := blk_facts (HX6.out.1)
  go_wp2_with fail
  refine (refHas_any s HS.out c _).mono ?_
  rintro e w7 ⟨rfl, hb⟩
  have hz7 := hb.size
  have HX7 : Hid (w7.heap[w.heap.size]? = some (.cells #[.int .u64 (s 0), .int .u64 (s 1), .int .u64 (s 2), .int .u64 (s 3), .int .u64 (s 4), .int .u64 (s 5), .int .u64 (s 6), .int .u64 (s 7)] 25) ∧ w7.heap[w2.heap.size]? = some (.cells #[.int .u64 (ofS zs 0), .int .u64 (ofS zs 1), .int .u64 (ofS zs 2), .int .u64 (ofS zs 3), .int .u64 (ofS zs 4), .int .u64 (ofS zs 5), .int .u64 (ofS zs 6), .int .u64 (ofS zs 7)] 25) ∧ w7.heap[w3.heap.size]? = some (.cells #[.int .u64 (ofS zs 0), .int .u64 (ofS zs 1), .int .u64 (ofS zs 2), .int .u64 (ofS zs 3), .int .u64 (ofS zs 4), .int .u64 (ofS zs 5), .int .u64 (ofS zs 6), .int .u64 (ofS zs 7)] 25) ∧ w7.heap[w4.heap.size]? = some (.cells #[.int .u64 (withS s c 0), .int .u64 (withS s c 1), .int .u64 (withS s c 2), .int .u64 (withS s c 3), .int .u64 (withS s c 4), .int .u64 (withS s c 5), .int .u64 (withS s c 6), .int .u64 (withS s c 7)] 25) ∧ w7.heap[w5.heap.size]? = some (.cells #[.int .u64 (withS s c 0), .int .u64 (withS s c 1), .int .u64 (withS s c 2), .int .u64 (withS s c 3), .int .u64 (withS s c 4), .int .u64 (withS s c 5), .int .u64 (withS s c 6), .int .u64 (withS s c 7)] 25) ∧ Below w.heap.size w w7) := ⟨(hb.block _ (by omega)).trans HX6.out.1, (hb.block _ (by omega)).trans HX6.out.2.1, (hb.block _ (by omega)).trans HX6.out.2.2.1, (hb.block _ (by omega)).trans HX6.out.2.2.2.1, (hb.block _ (by omega)).trans HX6.out.2.2.2.2.1, HX6.out.2.2.2.2.2.trans (hb.mono (by omega))⟩
  clear hb s0 s1 s2 s3 s4 s5 s6 s7 sz HX6
  obtain ⟨p0, p1, p2, p3, p4, p5, p6, p7, pz⟩ := blk_facts (HX7.out.2.1)
  obtain ⟨q0, q1, q2, q3, q4, q5, q6, q7, qz⟩ := blk_facts (HX7.out.2.2.1)
  obtain ⟨x0, x1, x2, x3, x4, x5, x6, x7, xz⟩ := blk_facts (HX7.out.2.2.2.1)
  obtain ⟨y0, y1, y2, y3, y4, y5, y6, y7, yz⟩ := blk_facts (HX7.out.2.2.2.2.1)
  go_wp2_with fail
  go_ret
  exact ⟨ret_bool (by simp), HX7.out.2.2.2.2.2⟩
end Go.Proofs.YtcnkoiogfhggeaaDoor
