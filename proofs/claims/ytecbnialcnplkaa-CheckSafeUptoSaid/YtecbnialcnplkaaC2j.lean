/- Contracts of layer 2's reference: Union, Meet; Meets. -/
import Derived.Test.YtecbnialcnplkaaC2i
namespace Go.Proofs.Ytecbnialcnplkaa
open Go.RowKit
set_option linter.unusedVariables false
theorem heap4_0 (w : World) (o0 o1 o2 o3 : Obj) : ((((w.alloc o0).alloc o1).alloc o2).alloc o3).heap[w.heap.size]? = some o0 := by
  show ((((w.heap.push o0).push o1).push o2).push o3)[w.heap.size]? = _
  simp only [Array.getElem?_push, Array.size_push]
  rw [if_neg (by omega), if_neg (by omega), if_neg (by omega), if_pos trivial]
theorem heap4_1 (w : World) (o0 o1 o2 o3 : Obj) : ((((w.alloc o0).alloc o1).alloc o2).alloc o3).heap[w.heap.size + 1]? = some o1 := by
  show ((((w.heap.push o0).push o1).push o2).push o3)[w.heap.size + 1]? = _
  simp only [Array.getElem?_push, Array.size_push]
  rw [if_neg (by omega), if_neg (by omega), if_pos trivial]
theorem heap4_2 (w : World) (o0 o1 o2 o3 : Obj) : ((((w.alloc o0).alloc o1).alloc o2).alloc o3).heap[w.heap.size + 2]? = some o2 := by
  show ((((w.heap.push o0).push o1).push o2).push o3)[w.heap.size + 2]? = _
  simp only [Array.getElem?_push, Array.size_push]
  rw [if_neg (by omega), if_pos trivial]
theorem heap4_3 (w : World) (o0 o1 o2 o3 : Obj) : ((((w.alloc o0).alloc o1).alloc o2).alloc o3).heap[w.heap.size + 3]? = some o3 := by
  show ((((w.heap.push o0).push o1).push o2).push o3)[w.heap.size + 3]? = _
  simp only [Array.getElem?_push, Array.size_push]
  rw [if_pos trivial]
set_option maxRecDepth 100000 in
set_option maxHeartbeats 2000000 in
theorem refMeet_any (a b : Nat → Int) (ha : Wds a) (hb : Wds b) (w : World) :
    Calls Try.prog 54 #[(.agg #[.int .u64 (a 0), .int .u64 (a 1), .int .u64 (a 2), .int .u64 (a 3), .int .u64 (a 4), .int .u64 (a 5), .int .u64 (a 6), .int .u64 (a 7)]), (.agg #[.int .u64 (b 0), .int .u64 (b 1), .int .u64 (b 2), .int .u64 (b 3), .int .u64 (b 4), .int .u64 (b 5), .int .u64 (b 6), .int .u64 (b 7)])] w fun e w' => e = .returned (.agg #[.int .u64 (andS a b 0), .int .u64 (andS a b 1), .int .u64 (andS a b 2), .int .u64 (andS a b 3), .int .u64 (andS a b 4), .int .u64 (andS a b 5), .int .u64 (andS a b 6), .int .u64 (andS a b 7)]) ∧ Below w.heap.size w w' := by
  obtain ⟨p, HP⟩ : ∃ p : Nat → Bool, Hid (p = fun k => bitB a k && bitB b k) := ⟨_, rfl⟩
  have HF : Hid (∀ i, i < 8 → upTo p 512 i = andS a b i) := by rw [HP.out]; exact upTo_andS ha hb
  have HA := Lib.hid ha
  have HB := Lib.hid hb
  clear ha hb
  go_enter Try.func54, Try.ntmps54
  go_wp2_with fail
  go_loopw [6, 7, 8] (fun i _ _ wr => ∃ k : Nat, k ≤ 512 ∧ i = .int .i64 k ∧ w.heap.size + 4 ≤ wr.heap.size ∧ Hid (wr.heap[w.heap.size]? = some (.cells #[.int .u64 (a 0), .int .u64 (a 1), .int .u64 (a 2), .int .u64 (a 3), .int .u64 (a 4), .int .u64 (a 5), .int .u64 (a 6), .int .u64 (a 7)] 42) ∧ wr.heap[w.heap.size + 1]? = some (.cells #[.int .u64 (b 0), .int .u64 (b 1), .int .u64 (b 2), .int .u64 (b 3), .int .u64 (b 4), .int .u64 (b 5), .int .u64 (b 6), .int .u64 (b 7)] 42) ∧ wr.heap[w.heap.size + 2]? = some (.cells #[.int .u64 (noS 0), .int .u64 (noS 1), .int .u64 (noS 2), .int .u64 (noS 3), .int .u64 (noS 4), .int .u64 (noS 5), .int .u64 (noS 6), .int .u64 (noS 7)] 42) ∧ wr.heap[w.heap.size + 3]? = some (.cells #[.int .u64 (upTo p k 0), .int .u64 (upTo p k 1), .int .u64 (upTo p k 2), .int .u64 (upTo p k 3), .int .u64 (upTo p k 4), .int .u64 (upTo p k 5), .int .u64 (upTo p k 6), .int .u64 (upTo p k 7)] 42) ∧ Below w.heap.size w wr)) (fun i _ _ _ => 512 - (intOf i).toNat)
  case atStart =>
    refine ⟨0, by omega, rfl, by simp, ⟨?_, ?_, ?_, ?_, ?_⟩⟩
    · exact heap4_0 w _ _ _ _
    · exact heap4_1 w _ _ _ _
    · exact heap4_2 w _ _ _ _
    · exact heap4_3 w _ _ _ _
    · exact ((((Below.refl _ _).alloc (Nat.le_refl _) _).alloc (by simp) _).alloc (by simp; omega) _).alloc (by simp; omega) _
  case round =>
    obtain ⟨k, hk, rfl, hsz, HH⟩ := hrel
    by_cases hlt : k < 512
    · have HBa : Hid (∀ w, Calls Try.prog 65 #[(.agg #[.int .u64 (a 0), .int .u64 (a 1), .int .u64 (a 2), .int .u64 (a 3), .int .u64 (a 4), .int .u64 (a 5), .int .u64 (a 6), .int .u64 (a 7)]), .int .i64 k] w fun e w' => e = .returned (.bool (bitB a k)) ∧ Below w.heap.size w w') := fun w => refBit_any a HA.out k hlt w
      have HBb : Hid (∀ w, Calls Try.prog 65 #[(.agg #[.int .u64 (b 0), .int .u64 (b 1), .int .u64 (b 2), .int .u64 (b 3), .int .u64 (b 4), .int .u64 (b 5), .int .u64 (b 6), .int .u64 (b 7)]), .int .i64 k] w fun e w' => e = .returned (.bool (bitB b k)) ∧ Below w.heap.size w w') := fun w => refBit_any b HB.out k hlt w
      have HBp : Hid (∀ w, Calls Try.prog 50 #[(.agg #[.int .u64 (upTo p k 0), .int .u64 (upTo p k 1), .int .u64 (upTo p k 2), .int .u64 (upTo p k 3), .int .u64 (upTo p k 4), .int .u64 (upTo p k 5), .int .u64 (upTo p k 6), .int .u64 (upTo p k 7)]), .int .i64 k] w fun e w' => e = .returned (.agg #[.int .u64 (putB (upTo p k) k 0), .int .u64 (putB (upTo p k) k 1), .int .u64 (putB (upTo p k) k 2), .int .u64 (putB (upTo p k) k 3), .int .u64 (putB (upTo p k) k 4), .int .u64 (putB (upTo p k) k 5), .int .u64 (putB (upTo p k) k 6), .int .u64 (putB (upTo p k) k 7)]) ∧ Below w.heap.size w w') := fun w => refPut_any _ (upTo_wds p k) k hlt w
      have HN : Hid (upTo p (k + 1) = if (bitB a k && bitB b k) then putB (upTo p k) k else upTo p k) := by show _ = _; rw [HP.out]; rfl
      obtain ⟨c0, c1, c2, c3, c4, c5, c6, c7, fz⟩ := blk_facts HH.out.1
      generalize bitB a k = x at *
      generalize bitB b k = y at *
      generalize putB (upTo p k) k = t' at *
      generalize ht : upTo p k = t at *
      have HTT := Lib.hid ht
      clear ht
      go_wp2_with fail
      refine (HBa.out _).mono ?_; rintro e w1 ⟨rfl, hb1⟩
      have hz1 := hb1.size
      have HH1 : Hid (w1.heap[w.heap.size + 1]? = some (.cells #[.int .u64 (b 0), .int .u64 (b 1), .int .u64 (b 2), .int .u64 (b 3), .int .u64 (b 4), .int .u64 (b 5), .int .u64 (b 6), .int .u64 (b 7)] 42) ∧ w1.heap[w.heap.size + 2]? = some (.cells #[.int .u64 (noS 0), .int .u64 (noS 1), .int .u64 (noS 2), .int .u64 (noS 3), .int .u64 (noS 4), .int .u64 (noS 5), .int .u64 (noS 6), .int .u64 (noS 7)] 42) ∧ w1.heap[w.heap.size + 3]? = some (.cells #[.int .u64 (t 0), .int .u64 (t 1), .int .u64 (t 2), .int .u64 (t 3), .int .u64 (t 4), .int .u64 (t 5), .int .u64 (t 6), .int .u64 (t 7)] 42) ∧ Below w.heap.size w w1 ∧ w1.heap[w.heap.size]? = some (.cells #[.int .u64 (a 0), .int .u64 (a 1), .int .u64 (a 2), .int .u64 (a 3), .int .u64 (a 4), .int .u64 (a 5), .int .u64 (a 6), .int .u64 (a 7)] 42)) :=
        ⟨(hb1.block _ (by omega)).trans HH.out.2.1, (hb1.block _ (by omega)).trans HH.out.2.2.1, (hb1.block _ (by omega)).trans HH.out.2.2.2.1, HH.out.2.2.2.2.trans (hb1.mono (by omega)), (hb1.block _ (by omega)).trans HH.out.1⟩
      clear hb1 c0 c1 c2 c3 c4 c5 c6 c7 fz HH
      obtain ⟨c0, c1, c2, c3, c4, c5, c6, c7, fz⟩ := blk_facts HH1.out.1
      go_wp2_with fail
      refine (HBb.out _).mono ?_; rintro e w2 ⟨rfl, hb1⟩
      have hz2 := hb1.size
      have HH2 : Hid (w2.heap[w.heap.size + 1]? = some (.cells #[.int .u64 (b 0), .int .u64 (b 1), .int .u64 (b 2), .int .u64 (b 3), .int .u64 (b 4), .int .u64 (b 5), .int .u64 (b 6), .int .u64 (b 7)] 42) ∧ w2.heap[w.heap.size + 2]? = some (.cells #[.int .u64 (noS 0), .int .u64 (noS 1), .int .u64 (noS 2), .int .u64 (noS 3), .int .u64 (noS 4), .int .u64 (noS 5), .int .u64 (noS 6), .int .u64 (noS 7)] 42) ∧ w2.heap[w.heap.size + 3]? = some (.cells #[.int .u64 (t 0), .int .u64 (t 1), .int .u64 (t 2), .int .u64 (t 3), .int .u64 (t 4), .int .u64 (t 5), .int .u64 (t 6), .int .u64 (t 7)] 42) ∧ Below w.heap.size w w2 ∧ w2.heap[w.heap.size]? = some (.cells #[.int .u64 (a 0), .int .u64 (a 1), .int .u64 (a 2), .int .u64 (a 3), .int .u64 (a 4), .int .u64 (a 5), .int .u64 (a 6), .int .u64 (a 7)] 42)) :=
        ⟨(hb1.block _ (by omega)).trans HH1.out.1, (hb1.block _ (by omega)).trans HH1.out.2.1, (hb1.block _ (by omega)).trans HH1.out.2.2.1, HH1.out.2.2.2.1.trans (hb1.mono (by omega)), (hb1.block _ (by omega)).trans HH1.out.2.2.2.2⟩
      clear hb1 c0 c1 c2 c3 c4 c5 c6 c7 fz HH1
      obtain ⟨c0, c1, c2, c3, c4, c5, c6, c7, fz⟩ := blk_facts HH2.out.2.2.1
      cases x <;> cases y
      all_goals
        go_wp2_with fail
        first
          | (refine (HBp.out _).mono ?_; rintro e w3 ⟨rfl, hb1⟩
             have hz3 := hb1.size
             obtain ⟨d0, d1, d2, d3, d4, d5, d6, d7, gz⟩ := blk_facts ((hb1.block (w.heap.size + 3) (by omega)).trans HH2.out.2.2.1)
             have HL := Lib.hid hb1
             clear hb1
             go_wp2_with fail
             go_roundw
             case rel =>
               refine ⟨k + 1, by omega, by go_num, by rw [set8_size]; omega, ⟨?_, ?_, ?_, ?_, ?_⟩⟩
               · rw [set8_ne _ _ _ (by omega)]; exact (HL.out.block _ (by omega)).trans HH2.out.2.2.2.2
               · rw [set8_ne _ _ _ (by omega)]; exact (HL.out.block _ (by omega)).trans HH2.out.1
               · rw [set8_ne _ _ _ (by omega)]; exact (HL.out.block _ (by omega)).trans HH2.out.2.1
               · have hN := HN.out
                 simp at hN
                 rw [hN]
                 exact set8 ((HL.out.block _ (by omega)).trans HH2.out.2.2.1) _ _ _ _ _ _ _ _
               · exact set8_below (HH2.out.2.2.2.1.trans (HL.out.mono (by omega))) _ (by omega) _ _ _ _ _ _ _ _
             case measure => simp [intOf]; omega)
          | (go_roundw
             case rel =>
               refine ⟨k + 1, by omega, by go_num, by omega, ⟨HH2.out.2.2.2.2, HH2.out.1, HH2.out.2.1, ?_, HH2.out.2.2.2.1⟩⟩
               have hN := HN.out
               simp at hN
               rw [hN]
               exact HH2.out.2.2.1
             case measure => simp [intOf]; omega)
    · obtain ⟨_, _, h2, h3, hb⟩ := HH.out
      obtain rfl : k = 512 := by omega
      obtain ⟨c0, c1, c2, c3, c4, c5, c6, c7, fz⟩ := blk_facts h3
      obtain ⟨d0, d1, d2, d3, d4, d5, d6, d7, gz⟩ := blk_facts h2
      rw [HF.out _ (by omega)] at c0 c1 c2 c3 c4 c5 c6 c7
      have HL := Lib.hid hb
      clear hb h2 h3
      go_wp2_with fail
      refine bodyPost_ret (v := _) (by simp [results, Try.results54, go_sem, d0, d1, d2, d3, d4, d5, d6, d7]) rfl ⟨rfl, ?_⟩
      exact set8_below HL.out _ (by omega) _ _ _ _ _ _ _ _
end Go.Proofs.Ytecbnialcnplkaa
