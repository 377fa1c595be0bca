/- Lists of lists held against each other by the law. -/
import Derived.Test.YtcnkoiogfhggeaaDoorC2v
import Derived.Test.YtcnkoiogfhggeaaDoorC2o
namespace Go.Proofs.YtcnkoiogfhggeaaDoor
open Go.RowKit
set_option linter.unusedVariables false
theorem RowsAt.calm {w w' : World} {v : Value} {gs : List (List Int)} {xs : List Value} (h : RowsAt w v gs xs) (hb : Below w.heap.size w w') : RowsAt w' v gs xs := h.chg (Chg.calm (fun _ => False) hb) (fun _ _ h => h)
theorem RowsAt.elem {w : World} {gs : List (List Int)} {xs : List Value} {a : Option Addr} {n c k : Nat} (h : RowsAt w (.slice a n c) gs xs) (hk : k < gs.length) :
    ∃ b x g xc, a = some ⟨b, 0, none⟩ ∧ gs[k]? = some g ∧ xs[k]? = some (.slice x g.length xc) ∧ w.cell? ⟨b, k, none⟩ = some (.slice x g.length xc) ∧ w.frozen? ⟨b, k, none⟩ = false ∧ IntsAt w x g.length g ∧ g.length ≤ 9223372036854775807 := by
  obtain ⟨g, hg⟩ : ∃ g, gs[k]? = some g := ⟨_, List.getElem?_eq_getElem hk⟩
  obtain ⟨b, c', x, hv, h1, h2, h3, h4⟩ := rows_at h hg
  obtain ⟨xa, xc, rfl, hi, hl⟩ := own_ints h4
  simp only [Value.slice.injEq] at hv
  exact ⟨b, xa, g, xc, hv.1, hg, h3, h1, h2, hi, hl⟩
set_option maxHeartbeats 1000000 in
theorem groups_any (v v' : Value) (gs : List (List Int)) (xs xs' : List Value) (w : World) (h : RowsAt w v gs xs) (h' : RowsAt w v' gs xs') :
    Calls Tryd.prog 30 #[v, v'] w fun e w' => e = .returned (.bool true) ∧ Below w.heap.size w w' := by
  obtain ⟨a, c, rfl⟩ := ownAt_form h.out
  obtain ⟨a', c', rfl⟩ := ownAt_form h'.out
  have hl := own_len h.out
  have HA := Lib.hid h
  have HB := Lib.hid h'
  clear h h'
  obtain ⟨L, hL⟩ : ∃ L, gs.length = L := ⟨_, rfl⟩
  have HL := Lib.hid hL
  rw [hL] at hl
  rw [hL] at HA HB ⊢
  clear hL
  go_enter Tryd.func30, Tryd.ntmps30
  go_wp2_with fail
  go_loopw [5] (fun i wr => ∃ k : Nat, k ≤ L ∧ i = .int .i64 k ∧ Hid (Below w.heap.size w wr)) (fun i _ => L - (intOf i).toNat)
  case atStart => exact ⟨0, by omega, rfl, Below.refl _ _⟩
  case round =>
    obtain ⟨k, hk, rfl, HH⟩ := hrel
    by_cases hlt : k < L
    · obtain ⟨b, x, g, xc, rfl, hg, _, x0, _, hi, hgl⟩ := (HA.out.calm HH.out).elem (k := k) (by rw [HL.out]; exact hlt)
      obtain ⟨b', x', g', xc', rfl, hg', _, x1, _, hi', _⟩ := (HB.out.calm HH.out).elem (k := k) (by rw [HL.out]; exact hlt)
      obtain rfl : g = g' := Option.some.inj (hg.symm.trans hg')
      have HC : Hid (∀ W, Below wr.heap.size wr W → Calls Tryd.prog 21 #[.slice x g.length xc, .slice x' g.length xc'] W fun e w' => e = .returned (.bool true) ∧ Below W.heap.size W w') := fun W hb => by
        have h := ints_any x x' g.length g.length xc xc' g g W (hi.below hb) (hi'.below hb) hgl hgl
        have e : decide (g = g) = true := by simp
        rw [e] at h
        exact h
      clear hi hi' hg hg'
      generalize g.length = n at *
      go_wp2_with fail
      go_still_tail 8, (by kernel_rfl)
      change wpList _ _ _ _ _ wr.drew
      go_wp2_with fail
      refine (HC.out _ ((Below.refl _ _).drew)).mono ?_; rintro e w4 ⟨rfl, hb⟩
      have HH4 : Hid (Below w.heap.size w w4) := HH.out.drew.trans (hb.mono HH.out.size)
      clear hb x0 x1
      go_wp2_with fail
      go_roundw
      case rel => exact ⟨k + 1, by omega, by go_num, HH4.out⟩
      case measure => simp [intOf]; omega
    · obtain rfl : k = L := by omega
      go_wp2_with fail
      go_ret
      exact ⟨rfl, HH.out⟩
end Go.Proofs.YtcnkoiogfhggeaaDoor
