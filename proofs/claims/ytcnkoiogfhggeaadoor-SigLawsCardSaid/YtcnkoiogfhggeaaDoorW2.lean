/- The walk of SigJoins. -/
import Derived.Test.YtcnkoiogfhggeaaDoorC2p
namespace Go.Proofs.YtcnkoiogfhggeaaDoor
open Go.RowKit
set_option linter.unusedVariables false
theorem blk_alloc {w : World} {b : Nat} {o : Obj} (h : w.heap[b]? = some o) (o2 : Obj) : (w.alloc o2).heap[b]? = some o :=
  (Below.heap_alloc w o2 b (Array.getElem?_eq_some_iff.1 h).1).trans h
set_option maxRecDepth 100000 in
set_option maxHeartbeats 4000000 in
theorem sigJoins_law (a : Nat → Int) (ha : Wds a) (b : Nat → Int) (hb : Wds b) (w : World) (hT : Tab w) :
    Calls Tryd.prog 5 #[(.agg #[.int .u64 (a 0), .int .u64 (a 1), .int .u64 (a 2), .int .u64 (a 3), .int .u64 (a 4), .int .u64 (a 5), .int .u64 (a 6), .int .u64 (a 7)]), (.agg #[.int .u64 (b 0), .int .u64 (b 1), .int .u64 (b 2), .int .u64 (b 3), .int .u64 (b 4), .int .u64 (b 5), .int .u64 (b 6), .int .u64 (b 7)])] w fun e w' => e = .returned (.bool true) ∧ Below w.heap.size w w' := by
  have HA := Lib.hid ha
  have HB := Lib.hid hb
  have HT := Lib.hid hT
  clear ha hb hT
  have heq := run_sig_eq
  go_enter Tryd.func5, Tryd.ntmps5
  go_wp2_with fail
  refine (shown2_any _ (HT.out.below (((Below.refl w.heap.size w).alloc (Nat.le_refl _) _).alloc (by simp) _) HT.out.pos)).mono ?_
  rintro e w1 ⟨rfl, hb⟩
  have hz1 := hb.size
  simp only [World.size_alloc] at hz1
  have HX1 : Hid (w1.heap[w.heap.size]? = some (.cells #[.int .u64 (a 0), .int .u64 (a 1), .int .u64 (a 2), .int .u64 (a 3), .int .u64 (a 4), .int .u64 (a 5), .int .u64 (a 6), .int .u64 (a 7)] 25) ∧ w1.heap[w.heap.size + 1]? = some (.cells #[.int .u64 (b 0), .int .u64 (b 1), .int .u64 (b 2), .int .u64 (b 3), .int .u64 (b 4), .int .u64 (b 5), .int .u64 (b 6), .int .u64 (b 7)] 25) ∧ Below w.heap.size w w1) := ⟨(hb.block _ (by simp; omega)).trans (heap2_0 w _ _), (hb.block _ (by simp)).trans (heap2_1 w _ _), (((Below.refl _ _).alloc (Nat.le_refl _) _).alloc (by simp) _).trans (hb.mono (by simp; omega))⟩
  clear hb  
  obtain ⟨a0, a1, a2, a3, a4, a5, a6, a7, az⟩ := blk_facts (HX1.out.1)
  obtain ⟨b0, b1, b2, b3, b4, b5, b6, b7, bz⟩ := blk_facts (HX1.out.2.1)
  go_wp2_with fail
  refine (union_any a b _).mono ?_
  rintro e w2 ⟨rfl, hb⟩
  have hz2 := hb.size
  have HX2 : Hid (w2.heap[w.heap.size]? = some (.cells #[.int .u64 (a 0), .int .u64 (a 1), .int .u64 (a 2), .int .u64 (a 3), .int .u64 (a 4), .int .u64 (a 5), .int .u64 (a 6), .int .u64 (a 7)] 25) ∧ w2.heap[w.heap.size + 1]? = some (.cells #[.int .u64 (b 0), .int .u64 (b 1), .int .u64 (b 2), .int .u64 (b 3), .int .u64 (b 4), .int .u64 (b 5), .int .u64 (b 6), .int .u64 (b 7)] 25) ∧ Below w.heap.size w w2) := ⟨(hb.block _ (by omega)).trans HX1.out.1, (hb.block _ (by omega)).trans HX1.out.2.1, HX1.out.2.2.trans (hb.mono (by omega))⟩
  clear hb a0 a1 a2 a3 a4 a5 a6 a7 az b0 b1 b2 b3 b4 b5 b6 b7 bz HX1
  obtain ⟨a0, a1, a2, a3, a4, a5, a6, a7, az⟩ := blk_facts (blk_alloc HX2.out.1 (.cells #[.int .u64 (orS a b 0), .int .u64 (orS a b 1), .int .u64 (orS a b 2), .int .u64 (orS a b 3), .int .u64 (orS a b 4), .int .u64 (orS a b 5), .int .u64 (orS a b 6), .int .u64 (orS a b 7)] 25))
  obtain ⟨b0, b1, b2, b3, b4, b5, b6, b7, bz⟩ := blk_facts (blk_alloc HX2.out.2.1 (.cells #[.int .u64 (orS a b 0), .int .u64 (orS a b 1), .int .u64 (orS a b 2), .int .u64 (orS a b 3), .int .u64 (orS a b 4), .int .u64 (orS a b 5), .int .u64 (orS a b 6), .int .u64 (orS a b 7)] 25))
  go_wp2_with fail
  refine (refUnion_any a b HA.out HB.out _).mono ?_
  rintro e w3 ⟨rfl, hb⟩
  have hz3 := hb.size
  simp only [World.size_alloc] at hz3
  have HX3 : Hid (w3.heap[w.heap.size]? = some (.cells #[.int .u64 (a 0), .int .u64 (a 1), .int .u64 (a 2), .int .u64 (a 3), .int .u64 (a 4), .int .u64 (a 5), .int .u64 (a 6), .int .u64 (a 7)] 25) ∧ w3.heap[w.heap.size + 1]? = some (.cells #[.int .u64 (b 0), .int .u64 (b 1), .int .u64 (b 2), .int .u64 (b 3), .int .u64 (b 4), .int .u64 (b 5), .int .u64 (b 6), .int .u64 (b 7)] 25) ∧ w3.heap[w2.heap.size]? = some (.cells #[.int .u64 (orS a b 0), .int .u64 (orS a b 1), .int .u64 (orS a b 2), .int .u64 (orS a b 3), .int .u64 (orS a b 4), .int .u64 (orS a b 5), .int .u64 (orS a b 6), .int .u64 (orS a b 7)] 25) ∧ Below w.heap.size w w3) := ⟨(hb.block _ (by simp; omega)).trans (blk_alloc HX2.out.1 _), (hb.block _ (by simp; omega)).trans (blk_alloc HX2.out.2.1 _), (hb.block _ (by simp)).trans (heap1_0 _ _), (HX2.out.2.2.alloc (by omega) _).trans (hb.mono (by simp; omega))⟩
  clear hb a0 a1 a2 a3 a4 a5 a6 a7 az b0 b1 b2 b3 b4 b5 b6 b7 bz HX2
  obtain ⟨a0, a1, a2, a3, a4, a5, a6, a7, az⟩ := blk_facts (blk_alloc HX3.out.1 (.cells #[.int .u64 (orS a b 0), .int .u64 (orS a b 1), .int .u64 (orS a b 2), .int .u64 (orS a b 3), .int .u64 (orS a b 4), .int .u64 (orS a b 5), .int .u64 (orS a b 6), .int .u64 (orS a b 7)] 25))
  obtain ⟨b0, b1, b2, b3, b4, b5, b6, b7, bz⟩ := blk_facts (blk_alloc HX3.out.2.1 (.cells #[.int .u64 (orS a b 0), .int .u64 (orS a b 1), .int .u64 (orS a b 2), .int .u64 (orS a b 3), .int .u64 (orS a b 4), .int .u64 (orS a b 5), .int .u64 (orS a b 6), .int .u64 (orS a b 7)] 25))
  go_wp2_with fail
  refine (meet_any a b _).mono ?_
  rintro e w4 ⟨rfl, hb⟩
  have hz4 := hb.size
  simp only [World.size_alloc] at hz4
  have HX4 : Hid (w4.heap[w.heap.size]? = some (.cells #[.int .u64 (a 0), .int .u64 (a 1), .int .u64 (a 2), .int .u64 (a 3), .int .u64 (a 4), .int .u64 (a 5), .int .u64 (a 6), .int .u64 (a 7)] 25) ∧ w4.heap[w.heap.size + 1]? = some (.cells #[.int .u64 (b 0), .int .u64 (b 1), .int .u64 (b 2), .int .u64 (b 3), .int .u64 (b 4), .int .u64 (b 5), .int .u64 (b 6), .int .u64 (b 7)] 25) ∧ w4.heap[w2.heap.size]? = some (.cells #[.int .u64 (orS a b 0), .int .u64 (orS a b 1), .int .u64 (orS a b 2), .int .u64 (orS a b 3), .int .u64 (orS a b 4), .int .u64 (orS a b 5), .int .u64 (orS a b 6), .int .u64 (orS a b 7)] 25) ∧ w4.heap[w3.heap.size]? = some (.cells #[.int .u64 (orS a b 0), .int .u64 (orS a b 1), .int .u64 (orS a b 2), .int .u64 (orS a b 3), .int .u64 (orS a b 4), .int .u64 (orS a b 5), .int .u64 (orS a b 6), .int .u64 (orS a b 7)] 25) ∧ Below w.heap.size w w4) := ⟨(hb.block _ (by simp; omega)).trans (blk_alloc HX3.out.1 _), (hb.block _ (by simp; omega)).trans (blk_alloc HX3.out.2.1 _), (hb.block _ (by simp; omega)).trans (blk_alloc HX3.out.2.2.1 _), (hb.block _ (by simp)).trans (heap1_0 _ _), (HX3.out.2.2.2.alloc (by omega) _).trans (hb.mono (by simp; omega))⟩
  clear hb a0 a1 a2 a3 a4 a5 a6 a7 az b0 b1 b2 b3 b4 b5 b6 b7 bz HX3
  obtain ⟨a0, a1, a2, a3, a4, a5, a6, a7, az⟩ := blk_facts (blk_alloc HX4.out.1 (.cells #[.int .u64 (andS a b 0), .int .u64 (andS a b 1), .int .u64 (andS a b 2), .int .u64 (andS a b 3), .int .u64 (andS a b 4), .int .u64 (andS a b 5), .int .u64 (andS a b 6), .int .u64 (andS a b 7)] 25))
  obtain ⟨b0, b1, b2, b3, b4, b5, b6, b7, bz⟩ := blk_facts (blk_alloc HX4.out.2.1 (.cells #[.int .u64 (andS a b 0), .int .u64 (andS a b 1), .int .u64 (andS a b 2), .int .u64 (andS a b 3), .int .u64 (andS a b 4), .int .u64 (andS a b 5), .int .u64 (andS a b 6), .int .u64 (andS a b 7)] 25))
  go_wp2_with fail
  refine (refMeet_any a b HA.out HB.out _).mono ?_
  rintro e w5 ⟨rfl, hb⟩
  have hz5 := hb.size
  simp only [World.size_alloc] at hz5
  have HX5 : Hid (w5.heap[w.heap.size]? = some (.cells #[.int .u64 (a 0), .int .u64 (a 1), .int .u64 (a 2), .int .u64 (a 3), .int .u64 (a 4), .int .u64 (a 5), .int .u64 (a 6), .int .u64 (a 7)] 25) ∧ w5.heap[w.heap.size + 1]? = some (.cells #[.int .u64 (b 0), .int .u64 (b 1), .int .u64 (b 2), .int .u64 (b 3), .int .u64 (b 4), .int .u64 (b 5), .int .u64 (b 6), .int .u64 (b 7)] 25) ∧ w5.heap[w2.heap.size]? = some (.cells #[.int .u64 (orS a b 0), .int .u64 (orS a b 1), .int .u64 (orS a b 2), .int .u64 (orS a b 3), .int .u64 (orS a b 4), .int .u64 (orS a b 5), .int .u64 (orS a b 6), .int .u64 (orS a b 7)] 25) ∧ w5.heap[w3.heap.size]? = some (.cells #[.int .u64 (orS a b 0), .int .u64 (orS a b 1), .int .u64 (orS a b 2), .int .u64 (orS a b 3), .int .u64 (orS a b 4), .int .u64 (orS a b 5), .int .u64 (orS a b 6), .int .u64 (orS a b 7)] 25) ∧ w5.heap[w4.heap.size]? = some (.cells #[.int .u64 (andS a b 0), .int .u64 (andS a b 1), .int .u64 (andS a b 2), .int .u64 (andS a b 3), .int .u64 (andS a b 4), .int .u64 (andS a b 5), .int .u64 (andS a b 6), .int .u64 (andS a b 7)] 25) ∧ Below w.heap.size w w5) := ⟨(hb.block _ (by simp; omega)).trans (blk_alloc HX4.out.1 _), (hb.block _ (by simp; omega)).trans (blk_alloc HX4.out.2.1 _), (hb.block _ (by simp; omega)).trans (blk_alloc HX4.out.2.2.1 _), (hb.block _ (by simp; omega)).trans (blk_alloc HX4.out.2.2.2.1 _), (hb.block _ (by simp)).trans (heap1_0 _ _), (HX4.out.2.2.2.2.alloc (by omega) _).trans (hb.mono (by simp; omega))⟩
  clear hb a0 a1 a2 a3 a4 a5 a6 a7 az b0 b1 b2 b3 b4 b5 b6 b7 bz HX4
  obtain ⟨a0, a1, a2, a3, a4, a5, a6, a7, az⟩ := blk_facts (blk_alloc HX5.out.1 (.cells #[.int .u64 (andS a b 0), .int .u64 (andS a b 1), .int .u64 (andS a b 2), .int .u64 (andS a b 3), .int .u64 (andS a b 4), .int .u64 (andS a b 5), .int .u64 (andS a b 6), .int .u64 (andS a b 7)] 25))
  obtain ⟨b0, b1, b2, b3, b4, b5, b6, b7, bz⟩ := blk_facts (blk_alloc HX5.out.2.1 (.cells #[.int .u64 (andS a b 0), .int .u64 (andS a b 1), .int .u64 (andS a b 2), .int .u64 (andS a b 3), .int .u64 (andS a b 4), .int .u64 (andS a b 5), .int .u64 (andS a b 6), .int .u64 (andS a b 7)] 25))
  go_wp2_with fail
  refine (meets_any a b _).mono ?_
  rintro e w6 ⟨rfl, hb⟩
  have hz6 := hb.size
  simp only [World.size_alloc] at hz6
  have HX6 : Hid (w6.heap[w.heap.size]? = some (.cells #[.int .u64 (a 0), .int .u64 (a 1), .int .u64 (a 2), .int .u64 (a 3), .int .u64 (a 4), .int .u64 (a 5), .int .u64 (a 6), .int .u64 (a 7)] 25) ∧ w6.heap[w.heap.size + 1]? = some (.cells #[.int .u64 (b 0), .int .u64 (b 1), .int .u64 (b 2), .int .u64 (b 3), .int .u64 (b 4), .int .u64 (b 5), .int .u64 (b 6), .int .u64 (b 7)] 25) ∧ w6.heap[w2.heap.size]? = some (.cells #[.int .u64 (orS a b 0), .int .u64 (orS a b 1), .int .u64 (orS a b 2), .int .u64 (orS a b 3), .int .u64 (orS a b 4), .int .u64 (orS a b 5), .int .u64 (orS a b 6), .int .u64 (orS a b 7)] 25) ∧ w6.heap[w3.heap.size]? = some (.cells #[.int .u64 (orS a b 0), .int .u64 (orS a b 1), .int .u64 (orS a b 2), .int .u64 (orS a b 3), .int .u64 (orS a b 4), .int .u64 (orS a b 5), .int .u64 (orS a b 6), .int .u64 (orS a b 7)] 25) ∧ w6.heap[w4.heap.size]? = some (.cells #[.int .u64 (andS a b 0), .int .u64 (andS a b 1), .int .u64 (andS a b 2), .int .u64 (andS a b 3), .int .u64 (andS a b 4), .int .u64 (andS a b 5), .int .u64 (andS a b 6), .int .u64 (andS a b 7)] 25) ∧ w6.heap[w5.heap.size]? = some (.cells #[.int .u64 (andS a b 0), .int .u64 (andS a b 1), .int .u64 (andS a b 2), .int .u64 (andS a b 3), .int .u64 (andS a b 4), .int .u64 (andS a b 5), .int .u64 (andS a b 6), .int .u64 (andS a b 7)] 25) ∧ Below w.heap.size w w6) := ⟨(hb.block _ (by simp; omega)).trans (blk_alloc HX5.out.1 _), (hb.block _ (by simp; omega)).trans (blk_alloc HX5.out.2.1 _), (hb.block _ (by simp; omega)).trans (blk_alloc HX5.out.2.2.1 _), (hb.block _ (by simp; omega)).trans (blk_alloc HX5.out.2.2.2.1 _), (hb.block _ (by simp; omega)).trans (blk_alloc HX5.out.2.2.2.2.1 _), (hb.block _ (by simp)).trans (heap1_0 _ _), (HX5.out.2.2.2.2.2.alloc (by omega) _).trans (hb.mono (by simp; omega))⟩
  clear hb a0 a1 a2 a3 a4 a5 a6 a7 az b0 b1 b2 b3 b4 b5 b6 b7 bz HX5
  obtain ⟨a0, a1, a2, a3, a4, a5, a6, a7, az⟩ := blk_facts (HX6.out.1)
  obtain ⟨b0, b1, b2, b3, b4, b5, b6, b7, bz⟩ := blk_facts (HX6.out.2.1)
  go_wp2_with fail
  refine (refMeets_any a b HA.out HB.out _).mono ?_
  rintro e w7 ⟨rfl, hb⟩
  have hz7 := hb.size
  have HX7 : Hid (w7.heap[w.heap.size]? = some (.cells #[.int .u64 (a 0), .int .u64 (a 1), .int .u64 (a 2), .int .u64 (a 3), .int .u64 (a 4), .int .u64 (a 5), .int .u64 (a 6), .int .u64 (a 7)] 25) ∧ w7.heap[w.heap.size + 1]? = some (.cells #[.int .u64 (b 0), .int .u64 (b 1), .int .u64 (b 2), .int .u64 (b 3), .int .u64 (b 4), .int .u64 (b 5), .int .u64 (b 6), .int .u64 (b 7)] 25) ∧ w7.heap[w2.heap.size]? = some (.cells #[.int .u64 (orS a b 0), .int .u64 (orS a b 1), .int .u64 (orS a b 2), .int .u64 (orS a b 3), .int .u64 (orS a b 4), .int .u64 (orS a b 5), .int .u64 (orS a b 6), .int .u64 (orS a b 7)] 25) ∧ w7.heap[w3.heap.size]? = some (.cells #[.int .u64 (orS a b 0), .int .u64 (orS a b 1), .int .u64 (orS a b 2), .int .u64 (orS a b 3), .int .u64 (orS a b 4), .int .u64 (orS a b 5), .int .u64 (orS a b 6), .int .u64 (orS a b 7)] 25) ∧ w7.heap[w4.heap.size]? = some (.cells #[.int .u64 (andS a b 0), .int .u64 (andS a b 1), .int .u64 (andS a b 2), .int .u64 (andS a b 3), .int .u64 (andS a b 4), .int .u64 (andS a b 5), .int .u64 (andS a b 6), .int .u64 (andS a b 7)] 25) ∧ w7.heap[w5.heap.size]? = some (.cells #[.int .u64 (andS a b 0), .int .u64 (andS a b 1), .int .u64 (andS a b 2), .int .u64 (andS a b 3), .int .u64 (andS a b 4), .int .u64 (andS a b 5), .int .u64 (andS a b 6), .int .u64 (andS a b 7)] 25) ∧ Below w.heap.size w w7) := ⟨(hb.block _ (by omega)).trans HX6.out.1, (hb.block _ (by omega)).trans HX6.out.2.1, (hb.block _ (by omega)).trans HX6.out.2.2.1, (hb.block _ (by omega)).trans HX6.out.2.2.2.1, (hb.block _ (by omega)).trans HX6.out.2.2.2.2.1, (hb.block _ (by omega)).trans HX6.out.2.2.2.2.2.1, HX6.out.2.2.2.2.2.2.trans (hb.mono (by omega))⟩
  clear hb a0 a1 a2 a3 a4 a5 a6 a7 az b0 b1 b2 b3 b4 b5 b6 b7 bz HX6
  obtain ⟨u0, u1, u2, u3, u4, u5, u6, u7, uz⟩ := blk_facts (HX7.out.2.2.1)
  obtain ⟨v0, v1, v2, v3, v4, v5, v6, v7, vz⟩ := blk_facts (HX7.out.2.2.2.1)
  obtain ⟨m0, m1, m2, m3, m4, m5, m6, m7, mz⟩ := blk_facts (HX7.out.2.2.2.2.1)
  obtain ⟨n0, n1, n2, n3, n4, n5, n6, n7, nz⟩ := blk_facts (HX7.out.2.2.2.2.2.1)
  go_wp2_with fail
  go_ret
  exact ⟨ret_bool (by simp), HX7.out.2.2.2.2.2.2⟩
end Go.Proofs.YtcnkoiogfhggeaaDoor
