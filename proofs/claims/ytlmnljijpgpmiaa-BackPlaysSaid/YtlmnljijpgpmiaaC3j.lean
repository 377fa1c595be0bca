/- Layer 3: the program's Log from any access on. -/
import Derived.Test.YtlmnljijpgpmiaaC3i
namespace Go.Proofs.Ytlmnljijpgpmiaa
open Go.RowKit
set_option linter.unusedVariables false
set_option maxHeartbeats 1000000 in
set_option maxRecDepth 100000 in
theorem log_from (p ring cells : Nat) (l l0 l1 : List Acc) (hl : l = l0 ++ l1) (hlen : l.length ≤ 3000000000000) (w : World) (F : Nat → Prop) (h : MemH p ring cells l w F) : Calls Try.prog 24 #[.pointer (some ⟨p, 0, none⟩), .int .i64 l0.length] w (LogGot w l1) := by
  obtain ⟨i0, hi, hI0, hI1, hI2⟩ := info_parts infoAcc
  obtain ⟨hv, sv, cv, lv, h1, h2, h3, h4⟩ := h
  have hpos : lv = .slice none 0 0 ∧ l = [] ∨ ∃ g c, lv = .slice (some ⟨g, 0, none⟩) l.length c ∧ l.length ≤ c ∧ ∀ k, k < l.length * 8 → w.cell? ⟨g, k, none⟩ = (accCells l)[k]? := by
    rcases h2.2 with ⟨e, h0⟩ | ⟨g, cap, cur, e, _, hg, hnc, hcm, hcs, htake⟩
    · exact .inl ⟨e, List.length_eq_zero_iff.1 h0⟩
    · refine .inr ⟨g, cap, e, hnc, fun k hk => ?_⟩
      rw [cell_of_row w g k cur _ (0, 0) hg]
      have h1 : (cur.toList.take (l.length * 8))[k]? = (accCells l)[k]? := by rw [htake]
      rw [List.getElem?_take, if_pos hk] at h1
      rw [← h1]; simp
  obtain ⟨_, _, _, _, p4, fz⟩ := mem_cells h1.1
  clear h1 h2 h3 h4
  rcases hpos with ⟨rfl, hl0⟩ | ⟨g, c, rfl, hlc, hcell⟩
  · have e0 : l0 = [] := by rw [hl0] at hl; exact (List.append_eq_nil_iff.1 hl.symm).1
    have e1 : l1 = [] := by rw [hl0] at hl; exact (List.append_eq_nil_iff.1 hl.symm).2
    subst e0 e1
    clear hl hl0
    have ez : ((([] : List Acc).length : Nat) : Int) = 0 := rfl
    rw [ez]
    go_enter Try.func24, Try.ntmps24
    go_wp2_with fail
    go_quiet (fail)
    go_wp2_with fail
    go_ret
    exact ⟨_, rfl, World.ownsRow_nil _ _ _ _, below_drewN (Below.refl _ _) _⟩
  · have HC := Lib.hid hcell
    clear hcell
    obtain ⟨n, hn⟩ : ∃ n, l.length = n := ⟨_, rfl⟩
    have HN := Lib.hid hn
    rw [hn] at p4 hlc hlen
    obtain ⟨k, hk⟩ : ∃ k, l0.length = k := ⟨_, rfl⟩
    have hkn : k + l1.length = n := by rw [← hk, ← hn, hl, List.length_append]
    have hz : (0 : Int) ≤ k := by omega
    have hz1 : (k : Int) ≤ n := by omega
    have hz2 : (n : Int) ≤ c := by omega
    have HK := Lib.hid hk
    have HLL := Lib.hid hl
    rw [hk]
    clear hn hl hk
    go_enter Try.func24, Try.ntmps24
    go_wp2_with fail
    go_quiet (fail)
    obtain ⟨ad, had, hnews⟩ : ∃ ad : Addr, (if n = k then some (⟨g, 0, none⟩ : Addr) else some ⟨g, k * 8, none⟩) = some ad ∧ ∀ j u, (accCells l1)[j]? = some u → (w.drewN nq).cell? (ad.add j) = some u := by
      by_cases hnk : n = k
      · refine ⟨_, if_pos hnk, fun j u hj => ?_⟩
        have e : l1 = [] := List.length_eq_zero_iff.1 (by omega)
        rw [e] at hj
        simp [accCells] at hj
      · refine ⟨_, if_neg hnk, fun j u hj => ?_⟩
        have hjl := (List.getElem?_eq_some_iff.1 hj).1
        rw [accCells_len] at hjl
        have h := HC.out (k * 8 + j) (by rw [HN.out]; omega)
        have e2 : (accCells l)[k * 8 + j]? = (accCells l1)[j]? := by
          have e3 : accCells l = accCells l0 ++ accCells l1 := by rw [HLL.out]; simp [accCells]
          rw [e3, List.getElem?_append_right (by rw [accCells_len, HK.out]; omega), accCells_len, HK.out, Nat.add_sub_cancel_left]
        rw [e2] at h
        show w.cell? _ = _
        have e : (⟨g, k * 8, none⟩ : Addr).add j = ⟨g, k * 8 + j, none⟩ := by simp [Addr.add]
        rw [e, h]; exact hj
    rw [had]
    have HL8 : Hid ((accCells l1).length = (n - k) * 8) := by show _ = _; rw [accCells_len]; omega
    have HNW := Lib.hid hnews
    have hown : (w.drewN nq).ownsRow w.heap.size 90 8 (.slice none 0 0) 0 [] := World.ownsRow_nil _ _ _ _
    clear hnews had
    go_wp2_with (at_builtin; refine wpListW_at rfl (.const (.slice none 0 0)) (.tmp 32) 75 rfl w.heap.size 90 i0 (.agg #[.int .i64 0, .int .i64 0, .int .i64 0, .int .i64 0, .int .i64 0, .int .i64 0, .int .i64 0, .bool false]) 8 64 Try.underlying75 hi hI0 hI1 hI2 rfl (by decide) (.slice none 0 0) 0 [] rfl hown ad (n - k) (n - k) (accCells l1) rfl ?c0 ?c1 (acc_all l1) ?c3 ?c4 ?c5 ?_)
    case c0 => exact HL8.out
    case c1 => exact HNW.out
    case c3 => unfold maxLen; omega
    case c4 => omega
    case c5 => exact Nat.le_refl _
    · intro v' w2 hown' hgrow _ _
      have HO : Hid (w2.ownsRow 0 90 8 v' l1.length (accCells l1)) := by
        show World.ownsRow _ _ _ _ _ _ _
        rw [show l1.length = n - k by omega]
        exact own_base hown' (fun _ _ => Nat.zero_le _)
      have HB : Hid (Below w.heap.size w w2) := (below_drewN (Below.refl _ w) nq).grown hgrow (Nat.le_refl _) (fun j hj => by simp [Value.ownBlock] at hj)
      clear hown' hgrow hown
      go_wp2_with fail
      go_ret
      exact ⟨_, rfl, HO.out, HB.out⟩
end Go.Proofs.Ytlmnljijpgpmiaa
