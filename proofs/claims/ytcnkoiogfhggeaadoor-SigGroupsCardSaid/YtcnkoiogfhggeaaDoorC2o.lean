/- Contracts of layer 2's laws: lists of numbers held against each other; the examples at the head. -/
import Derived.Test.YtcnkoiogfhggeaaDoorC2n
import Derived.RegionTactic
import Derived.ChangeAlike
namespace Go.Proofs.YtcnkoiogfhggeaaDoor
open Go.RowKit
set_option linter.unusedVariables false
theorem own_ints {w : World} {B n : Nat} {v : Value} {xs : List Int} (h : w.ownsRow B 3 1 v n (xs.map (Value.int .i64))) : ∃ a c, v = .slice a n c ∧ IntsAt w a n xs ∧ n ≤ 9223372036854775807 := by
  obtain ⟨hl, h2⟩ := h
  have hlen : xs.length = n := by simpa using hl
  rcases h2 with ⟨rfl, rfl⟩ | ⟨g, cap, cur, rfl, hB, hg, hnc, hcm, hcs, htake⟩
  · exact ⟨_, _, rfl, ⟨hlen, .inl rfl⟩, by omega⟩
  · refine ⟨_, _, rfl, ⟨hlen, .inr ⟨g, 0, rfl, (Array.getElem?_eq_some_iff.1 hg).1, ?_⟩⟩, by unfold maxLen at hcm; omega⟩
    intro i hi
    rw [cell_of_row w g (0 + i) cur 3 (0, 0) hg]
    have hi' : i < (xs.map (Value.int .i64)).length := by simpa [hlen] using hi
    have : (cur.toList.take (n * 1))[i]? = some ((xs.map (Value.int .i64))[i]) := by rw [htake]; exact List.getElem?_eq_getElem hi'
    rw [List.getElem?_take, if_pos (by omega)] at this
    simp only [Nat.zero_add]
    have h3 : cur[i]? = some (Value.int .i64 (xs[i]'(by omega))) := by simpa using this
    rw [h3]
    simp [List.getD, List.getElem?_eq_getElem (show i < xs.length by omega)]
theorem IntsAt.below {w w' : World} {a : Option Addr} {n : Nat} {xs : List Int} (h : IntsAt w a n xs) (hb : Below w.heap.size w w') : IntsAt w' a n xs := by
  obtain ⟨h1, h2⟩ := h
  refine ⟨h1, h2.elim .inl fun ⟨b, off, e, hlt, hc⟩ => .inr ⟨b, off, e, Nat.lt_of_lt_of_le hlt hb.size, fun i hi => (hb.cell (p := ⟨b, off + i, none⟩) hlt).trans (hc i hi)⟩⟩
theorem eq_of_getD {xs ys : List Int} (hl : xs.length = ys.length) (h : ∀ j, j < xs.length → xs.getD j 0 = ys.getD j 0) : xs = ys := by
  apply List.ext_getElem hl
  intro i h1 h2
  have := h i h1
  simpa [List.getD, List.getElem?_eq_getElem h1, List.getElem?_eq_getElem h2] using this
set_option maxHeartbeats 1000000 in
theorem ints_any (a b : Option Addr) (na nb ca cb : Nat) (xs ys : List Int) (w : World) (hx : IntsAt w a na xs) (hy : IntsAt w b nb ys) (hna : na ≤ 9223372036854775807) (hnb : nb ≤ 9223372036854775807) :
    Calls Tryd.prog 21 #[.slice a na ca, .slice b nb cb] w fun e w' => e = .returned (.bool (decide (xs = ys))) ∧ Below w.heap.size w w' := by
  by_cases hn : na = nb
  · subst hn
    have HX := Lib.hid hx
    have HY := Lib.hid hy
    clear hx hy
    go_enter Tryd.func21, Tryd.ntmps21
    go_wp2_with fail
    go_loopw [5] (fun i wr => ∃ k : Nat, k ≤ na ∧ i = .int .i64 k ∧ Hid ((∀ j, j < k → xs.getD j 0 = ys.getD j 0) ∧ Below w.heap.size w wr)) (fun i _ => na - (intOf i).toNat)
    case atStart => exact ⟨0, by omega, rfl, ⟨fun j hj => by omega, Below.refl _ _⟩⟩
    case round =>
      obtain ⟨k, hk, rfl, HH⟩ := hrel
      by_cases hlt : k < na
      · obtain ⟨b1, o1, rfl, hb1, hc1⟩ := HX.out.2.resolve_left (by omega)
        obtain ⟨b2, o2, rfl, hb2, hc2⟩ := HY.out.2.resolve_left (by omega)
        have e1 := (HH.out.2.cell (p := ⟨b1, o1 + k, none⟩) hb1).trans (hc1 k hlt)
        have e2 := (HH.out.2.cell (p := ⟨b2, o2 + k, none⟩) hb2).trans (hc2 k hlt)
        have HXk : Hid (∃ q, q = xs.getD k 0) := ⟨_, rfl⟩
        obtain ⟨p, HP⟩ : ∃ p, Hid (xs.getD k 0 = p) := ⟨_, rfl⟩
        obtain ⟨q, HQ⟩ : ∃ q, Hid (ys.getD k 0 = q) := ⟨_, rfl⟩
        rw [HP.out] at e1
        rw [HQ.out] at e2
        clear hc1 hc2 HXk
        have h0 : (0 : Int) ≤ k := by omega
        have hki : (k : Int) < na := by omega
        by_cases hpq : p = q
        · subst hpq
          go_wp2_with fail
          go_region
          go_wp2_with fail
          go_roundw
          case rel =>
            refine ⟨k + 1, by omega, by go_num, ⟨fun j hj => ?_, HH.out.2.drew⟩⟩
            by_cases hjk : j = k
            · subst hjk; rw [HP.out, HQ.out]
            · exact HH.out.1 j (by omega)
          case measure => simp [intOf]; omega
        · have hne : (p == q) = false := by simp [hpq]
          have HN := Lib.hid hpq
          clear hpq
          go_wp2_with fail
          go_region
          go_wp2_with fail
          go_ret
          refine ⟨ret_bool ?_, HH.out.2.drew⟩
          rw [eq_comm, decide_eq_false_iff_not]
          intro e
          apply HN.out
          rw [← HP.out, ← HQ.out, e]
      · obtain rfl : k = na := by omega
        go_wp2_with fail
        go_ret
        refine ⟨ret_bool ?_, HH.out.2⟩
        rw [eq_comm, decide_eq_true_iff]
        exact eq_of_getD (HX.out.1.trans HY.out.1.symm) fun j hj => HH.out.1 j (by rw [HX.out.1] at hj; exact hj)
  · have hne : ((na : Int) == (nb : Int)) = false := by simp; omega
    have HN : Hid (xs ≠ ys) := by
      intro e
      apply hn
      rw [← hx.1, ← hy.1, e]
    clear hn hx hy
    go_enter Tryd.func21, Tryd.ntmps21
    go_wp2_with fail
    go_ret
    refine ⟨ret_bool ?_, Below.refl _ _⟩
    rw [eq_comm, decide_eq_false_iff_not]
    exact HN.out
end Go.Proofs.YtcnkoiogfhggeaaDoor
