/- The reference's Same: two signatures held against each other, word by word. -/
import Derived.Test.YtcnkoiogfhggeaaDoorC2t
import Derived.Test.YtcnkoiogfhggeaaDoorC2g
import Derived.StillTailTactics
namespace Go.Proofs.YtcnkoiogfhggeaaDoor
open Go.RowKit
set_option linter.unusedVariables false
theorem sig_cell {w : World} {b : Nat} {s : Nat → Int} {T : TypeId} (h : w.heap[b]? = some (.cells #[.int .u64 (s 0), .int .u64 (s 1), .int .u64 (s 2), .int .u64 (s 3), .int .u64 (s 4), .int .u64 (s 5), .int .u64 (s 6), .int .u64 (s 7)] T)) {j : Nat} (hj : j < 8) : w.cell? ⟨b, j, none⟩ = some (.int .u64 (s j)) := by
  obtain ⟨h0, h1, h2, h3, h4, h5, h6, h7, _⟩ := blk_facts h
  match j, hj with
  | 0, _ => exact h0
  | 1, _ => exact h1
  | 2, _ => exact h2
  | 3, _ => exact h3
  | 4, _ => exact h4
  | 5, _ => exact h5
  | 6, _ => exact h6
  | 7, _ => exact h7
set_option maxHeartbeats 1000000 in
theorem refSame_any (s t : Nat → Int) (w : World) : Calls Tryd.prog 40 #[(.agg #[.int .u64 (s 0), .int .u64 (s 1), .int .u64 (s 2), .int .u64 (s 3), .int .u64 (s 4), .int .u64 (s 5), .int .u64 (s 6), .int .u64 (s 7)]), (.agg #[.int .u64 (t 0), .int .u64 (t 1), .int .u64 (t 2), .int .u64 (t 3), .int .u64 (t 4), .int .u64 (t 5), .int .u64 (t 6), .int .u64 (t 7)])] w fun e w' => e = .returned (.bool (sigEq s t)) ∧ Below w.heap.size w w' := by
  go_enter Tryd.func40, Tryd.ntmps40
  go_wp2_with fail
  obtain ⟨v, hv⟩ : ∃ v, v = (w.alloc (.cells #[.int .u64 (s 0), .int .u64 (s 1), .int .u64 (s 2), .int .u64 (s 3), .int .u64 (s 4), .int .u64 (s 5), .int .u64 (s 6), .int .u64 (s 7)] 25)).alloc (.cells #[.int .u64 (t 0), .int .u64 (t 1), .int .u64 (t 2), .int .u64 (t 3), .int .u64 (t 4), .int .u64 (t 5), .int .u64 (t 6), .int .u64 (t 7)] 25) := ⟨_, rfl⟩
  have HV : Hid (Below w.heap.size w v ∧ v.heap[w.heap.size]? = some (.cells #[.int .u64 (s 0), .int .u64 (s 1), .int .u64 (s 2), .int .u64 (s 3), .int .u64 (s 4), .int .u64 (s 5), .int .u64 (s 6), .int .u64 (s 7)] 25) ∧ v.heap[w.heap.size + 1]? = some (.cells #[.int .u64 (t 0), .int .u64 (t 1), .int .u64 (t 2), .int .u64 (t 3), .int .u64 (t 4), .int .u64 (t 5), .int .u64 (t 6), .int .u64 (t 7)] 25)) := by
    rw [hv]
    exact ⟨((Below.refl _ _).alloc (Nat.le_refl _) _).alloc (by simp) _, heap2_0 _ _ _, heap2_1 _ _ _⟩
  have hz : v.heap.size = w.heap.size + 2 := by rw [hv]; simp
  rw [← hv]
  clear hv
  go_loopw [5] (fun i wr => ∃ k : Nat, k ≤ 8 ∧ i = .int .i64 k ∧ Hid ((∀ j, j < k → s j = t j) ∧ Below v.heap.size v wr)) (fun i _ => 8 - (intOf i).toNat)
  case atStart => exact ⟨0, by omega, rfl, fun j h => by omega, Below.refl _ _⟩
  case round =>
    obtain ⟨k, hk, rfl, HH⟩ := hrel
    by_cases hlt : k < 8
    · have ca := sig_cell ((HH.out.2.block _ (by omega)).trans HV.out.2.1) hlt
      have cb := sig_cell ((HH.out.2.block _ (by omega)).trans HV.out.2.2) hlt
      have HE : Hid (s k = s k ∧ t k = t k) := ⟨rfl, rfl⟩
      by_cases hq : s k = t k
      · have HQ := Lib.hid hq
        have e1 : (s k == t k) = true := by simp [hq]
        clear hq
        generalize hx : s k = x at ca cb e1
        generalize hy : t k = y at ca cb e1
        clear hx hy
        go_wp2_with fail
        go_quiet (fail)
        go_wp2_with fail
        go_roundw
        case rel =>
          refine ⟨k + 1, by omega, by go_num, fun j hj => ?_, below_drewN HH.out.2 nq⟩
          by_cases e : j = k
          · rw [e]; exact HQ.out
          · exact HH.out.1 j (by omega)
        case measure => simp [intOf]; omega
      · have HQ := Lib.hid hq
        have e1 : (s k == t k) = false := by rw [beq_eq_false_iff_ne]; exact hq
        have hne : sigEq s t = false := by
          rw [Bool.eq_false_iff]
          intro h
          exact hq ((sigEq_iff _ _).1 h k hlt)
        have HN := Lib.hid hne
        clear hq hne
        generalize hx : s k = x at ca cb e1
        generalize hy : t k = y at ca cb e1
        clear hx hy
        go_wp2_with fail
        go_quiet (fail)
        go_wp2_with fail
        go_ret
        exact ⟨by rw [HN.out]; rfl, HV.out.1.trans ((below_drewN HH.out.2 nq).mono (by omega))⟩
    · obtain rfl : k = 8 := by omega
      have HE : Hid (sigEq s t = true) := (sigEq_iff _ _).2 (fun i hi => HH.out.1 i hi)
      go_wp2_with fail
      go_ret
      exact ⟨by rw [HE.out]; rfl, HV.out.1.trans (HH.out.2.mono (by omega))⟩
end Go.Proofs.YtcnkoiogfhggeaaDoor
