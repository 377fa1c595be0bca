/- Contracts of layer 2's reference: Bit, Put, With, Has. -/
import Derived.Test.YtojkeahffabifaaC2f
namespace Go.Proofs.Ytojkeahffabifaa
open Go.RowKit
set_option linter.unusedVariables false
theorem lit_cell (s : Nat → Int) (w : World) (T : TypeId) (i : Nat) (hi : i < 8) : (w.alloc (.cells #[.int .u64 (s 0), .int .u64 (s 1), .int .u64 (s 2), .int .u64 (s 3), .int .u64 (s 4), .int .u64 (s 5), .int .u64 (s 6), .int .u64 (s 7)] T)).cell? ⟨w.heap.size, i, none⟩ = some (.int .u64 (s i)) := by
  match i, hi with
  | 0, _ => simp
  | 1, _ => simp
  | 2, _ => simp
  | 3, _ => simp
  | 4, _ => simp
  | 5, _ => simp
  | 6, _ => simp
  | 7, _ => simp
set_option maxHeartbeats 400000 in
theorem refBit_any (s : Nat → Int) (hs : Wds s) (k : Nat) (hk : k < 512) (w : World) :
    Calls Try.prog 65 #[(.agg #[.int .u64 (s 0), .int .u64 (s 1), .int .u64 (s 2), .int .u64 (s 3), .int .u64 (s 4), .int .u64 (s 5), .int .u64 (s 6), .int .u64 (s 7)]), .int .i64 k] w fun e w' => e = .returned (.bool (bitB s k)) ∧ Below w.heap.size w w' := by
  have HE := Lib.hid (bit_div s hs k)
  have hx := hs (k / 64)
  have hc := lit_cell s w 42 (k / 64) (by omega)
  clear hs
  generalize s (k / 64) = x at *
  generalize bitB s k = r at *
  have hx0 := hx.1
  have hx1 := hx.2
  clear hx
  go_enter Try.func65, Try.ntmps65
  go_wp2_with fail
  go_loop [5, 6] (fun u i => ∃ (j : Nat) (a : Int), j ≤ k % 64 ∧ u = .int .u64 a ∧ i = .int .i64 j ∧ 0 ≤ a ∧ a < 18446744073709551616 ∧ Hid (a = x / 2 ^ j)) (fun _ i => k % 64 - (intOf i).toNat)
  case atStart => exact ⟨0, x, by omega, rfl, rfl, hx0, hx1, by show _ = _; simp⟩
  case round =>
    obtain ⟨j, a, hj, rfl, rfl, ha0, ha1, H⟩ := hrel
    by_cases hlt : (j : Int) < (k : Int) % 64
    · go_wp2
      go_round
      case rel => exact ⟨j + 1, _, by omega, rfl, by go_num, by omega, by omega, by show _ = _; rw [H.out, pow_half]⟩
      case measure => simp [intOf]; omega
    · have hjk : j = k % 64 := by omega
      have HJ := Lib.hid hjk
      clear hjk
      go_wp2
      go_ret
      exact ⟨ret_bool (by rw [H.out, HJ.out]; exact HE.out), (Below.refl _ _).alloc (Nat.le_refl _) _⟩
theorem bcell {W w1 : World} {B : Nat} (hb : Below B W w1) : (∀ b o, b < B → w1.cell? ⟨b, o, none⟩ = W.cell? ⟨b, o, none⟩) ∧ (∀ b o, b < B → w1.frozen? ⟨b, o, none⟩ = W.frozen? ⟨b, o, none⟩) :=
  ⟨fun b o h => hb.cell (p := ⟨b, o, none⟩) h, fun b o h => hb.frozen (p := ⟨b, o, none⟩) h⟩
theorem ret_sig {a0 a1 a2 a3 a4 a5 a6 a7 b0 b1 b2 b3 b4 b5 b6 b7 : Int} (h0 : a0 = b0) (h1 : a1 = b1) (h2 : a2 = b2) (h3 : a3 = b3) (h4 : a4 = b4) (h5 : a5 = b5) (h6 : a6 = b6) (h7 : a7 = b7) :
    Ending.returned (.agg #[.int .u64 a0, .int .u64 a1, .int .u64 a2, .int .u64 a3, .int .u64 a4, .int .u64 a5, .int .u64 a6, .int .u64 a7]) = .returned (.agg #[.int .u64 b0, .int .u64 b1, .int .u64 b2, .int .u64 b3, .int .u64 b4, .int .u64 b5, .int .u64 b6, .int .u64 b7]) := by
  rw [h0, h1, h2, h3, h4, h5, h6, h7]
theorem blk_facts {w : World} {b : Nat} {s : Nat → Int} {T : TypeId} (h : w.heap[b]? = some (.cells #[.int .u64 (s 0), .int .u64 (s 1), .int .u64 (s 2), .int .u64 (s 3), .int .u64 (s 4), .int .u64 (s 5), .int .u64 (s 6), .int .u64 (s 7)] T)) : w.cell? ⟨b, 0, none⟩ = some (.int .u64 (s 0)) ∧ w.cell? ⟨b, 1, none⟩ = some (.int .u64 (s 1)) ∧ w.cell? ⟨b, 2, none⟩ = some (.int .u64 (s 2)) ∧ w.cell? ⟨b, 3, none⟩ = some (.int .u64 (s 3)) ∧ w.cell? ⟨b, 4, none⟩ = some (.int .u64 (s 4)) ∧ w.cell? ⟨b, 5, none⟩ = some (.int .u64 (s 5)) ∧ w.cell? ⟨b, 6, none⟩ = some (.int .u64 (s 6)) ∧ w.cell? ⟨b, 7, none⟩ = some (.int .u64 (s 7)) ∧ ∀ o, w.frozen? ⟨b, o, none⟩ = false :=
  ⟨by simp [World.cell?, h], by simp [World.cell?, h], by simp [World.cell?, h], by simp [World.cell?, h], by simp [World.cell?, h], by simp [World.cell?, h], by simp [World.cell?, h], by simp [World.cell?, h], fun o => by simp [World.frozen?, h]⟩
theorem heap2_0 (w : World) (o1 o2 : Obj) : ((w.alloc o1).alloc o2).heap[w.heap.size]? = some o1 := by
  show ((w.heap.push o1).push o2)[w.heap.size]? = _
  simp only [Array.getElem?_push, Array.size_push]
  rw [if_neg (by omega), if_pos trivial]
theorem heap2_1 (w : World) (o1 o2 : Obj) : ((w.alloc o1).alloc o2).heap[w.heap.size + 1]? = some o2 := by
  show ((w.heap.push o1).push o2)[w.heap.size + 1]? = _
  simp only [Array.getElem?_push, Array.size_push]
  rw [if_pos trivial]
set_option maxHeartbeats 1000000 in
theorem refPut_at0 (s : Nat → Int) (q t : Int) (h0 : 0 ≤ q) (h5 : q < 512) (h1 : q / 64 = 0) (HB : Hid (∀ w, Calls Try.prog 65 #[(.agg #[.int .u64 (s 0), .int .u64 (s 1), .int .u64 (s 2), .int .u64 (s 3), .int .u64 (s 4), .int .u64 (s 5), .int .u64 (s 6), .int .u64 (s 7)]), .int .i64 q] w fun e w' => e = .returned (.bool false) ∧ Below w.heap.size w w'))
    (HT : Hid (∀ p : Int, p = 2 ^ (q % 64).toNat → IntKind.u64.wrap (s 0 + p) = t)) (w : World) :
    Calls Try.prog 48 #[(.agg #[.int .u64 (s 0), .int .u64 (s 1), .int .u64 (s 2), .int .u64 (s 3), .int .u64 (s 4), .int .u64 (s 5), .int .u64 (s 6), .int .u64 (s 7)]), .int .i64 q] w fun e w' => e = .returned (.agg #[.int .u64 t, .int .u64 (s 1), .int .u64 (s 2), .int .u64 (s 3), .int .u64 (s 4), .int .u64 (s 5), .int .u64 (s 6), .int .u64 (s 7)]) ∧ Below w.heap.size w w' := by
  go_enter Try.func48, Try.ntmps48
  go_wp2_with fail
  refine (HB.out _).mono ?_; rintro e w1 ⟨rfl, hb⟩
  have hz := hb.size
  obtain ⟨c0, c1, c2, c3, c4, c5, c6, c7, fz⟩ := blk_facts ((hb.block w.heap.size (by simp; omega)).trans (heap2_0 w _ _))
  obtain ⟨d0, d1, d2, d3, d4, d5, d6, d7, gz⟩ := blk_facts (s := noS) ((hb.block (w.heap.size + 1) (by simp)).trans (heap2_1 w _ _))
  simp only [World.size_alloc] at hz
  have HL := Lib.hid hb
  clear hb
  go_wp2_with fail
  go_loop [6, 7] (fun u i => ∃ (j : Nat) (p : Int), (j : Int) ≤ q % 64 ∧ u = .int .u64 p ∧ i = .int .i64 j ∧ 0 ≤ p ∧ p < 18446744073709551616 ∧ Hid (p = 2 ^ j)) (fun _ i => (q % 64).toNat - (intOf i).toNat)
  case atStart => exact ⟨0, 1, by omega, rfl, rfl, by omega, by omega, by show _ = _; simp⟩
  case round =>
    obtain ⟨j, p, hj, rfl, rfl, hp0, hp1, H⟩ := hrel
    by_cases hlt : (j : Int) < q % 64
    · have hp2 : p ≤ 4611686018427387904 := by
        rw [H.out]
        have e := Nat.pow_le_pow_right (n := 2) (by decide) (show j ≤ 62 by omega)
        rw [← Int.ofNat_le, Int.natCast_pow] at e
        exact e
      go_wp2
      go_round
      case rel => exact ⟨j + 1, _, by omega, rfl, by go_num, by omega, by omega, by show _ = _; rw [H.out, Int.pow_succ]; omega⟩
      case measure => simp [intOf]; omega
    · have HJ : Hid (j = (q % 64).toNat) := by show _ = _; omega
      go_wp2
      have e := HT.out p (by rw [H.out, HJ.out])
      refine bodyPost_ret (v := _) (by simp [results, Try.results48, go_sem, d0, d1, d2, d3, d4, d5, d6, d7]; rfl) rfl ⟨?_, ?_⟩
      · exact ret_sig e rfl rfl rfl rfl rfl rfl rfl
      · refine (((Below.refl _ _).alloc (Nat.le_refl _) _).alloc (by simp) _).trans ((HL.out.mono (by simp; omega)).trans ?_)
        iterate 9 (refine Below.setCell ?_ (by simp) _)
        exact Below.refl _ _
set_option maxHeartbeats 1000000 in
theorem refPut_at1 (s : Nat → Int) (q t : Int) (h0 : 0 ≤ q) (h5 : q < 512) (h1 : q / 64 = 1) (HB : Hid (∀ w, Calls Try.prog 65 #[(.agg #[.int .u64 (s 0), .int .u64 (s 1), .int .u64 (s 2), .int .u64 (s 3), .int .u64 (s 4), .int .u64 (s 5), .int .u64 (s 6), .int .u64 (s 7)]), .int .i64 q] w fun e w' => e = .returned (.bool false) ∧ Below w.heap.size w w'))
    (HT : Hid (∀ p : Int, p = 2 ^ (q % 64).toNat → IntKind.u64.wrap (s 1 + p) = t)) (w : World) :
    Calls Try.prog 48 #[(.agg #[.int .u64 (s 0), .int .u64 (s 1), .int .u64 (s 2), .int .u64 (s 3), .int .u64 (s 4), .int .u64 (s 5), .int .u64 (s 6), .int .u64 (s 7)]), .int .i64 q] w fun e w' => e = .returned (.agg #[.int .u64 (s 0), .int .u64 t, .int .u64 (s 2), .int .u64 (s 3), .int .u64 (s 4), .int .u64 (s 5), .int .u64 (s 6), .int .u64 (s 7)]) ∧ Below w.heap.size w w' := by
  go_enter Try.func48, Try.ntmps48
  go_wp2_with fail
  refine (HB.out _).mono ?_; rintro e w1 ⟨rfl, hb⟩
  have hz := hb.size
  obtain ⟨c0, c1, c2, c3, c4, c5, c6, c7, fz⟩ := blk_facts ((hb.block w.heap.size (by simp; omega)).trans (heap2_0 w _ _))
  obtain ⟨d0, d1, d2, d3, d4, d5, d6, d7, gz⟩ := blk_facts (s := noS) ((hb.block (w.heap.size + 1) (by simp)).trans (heap2_1 w _ _))
  simp only [World.size_alloc] at hz
  have HL := Lib.hid hb
  clear hb
  go_wp2_with fail
  go_loop [6, 7] (fun u i => ∃ (j : Nat) (p : Int), (j : Int) ≤ q % 64 ∧ u = .int .u64 p ∧ i = .int .i64 j ∧ 0 ≤ p ∧ p < 18446744073709551616 ∧ Hid (p = 2 ^ j)) (fun _ i => (q % 64).toNat - (intOf i).toNat)
  case atStart => exact ⟨0, 1, by omega, rfl, rfl, by omega, by omega, by show _ = _; simp⟩
  case round =>
    obtain ⟨j, p, hj, rfl, rfl, hp0, hp1, H⟩ := hrel
    by_cases hlt : (j : Int) < q % 64
    · have hp2 : p ≤ 4611686018427387904 := by
        rw [H.out]
        have e := Nat.pow_le_pow_right (n := 2) (by decide) (show j ≤ 62 by omega)
        rw [← Int.ofNat_le, Int.natCast_pow] at e
        exact e
      go_wp2
      go_round
      case rel => exact ⟨j + 1, _, by omega, rfl, by go_num, by omega, by omega, by show _ = _; rw [H.out, Int.pow_succ]; omega⟩
      case measure => simp [intOf]; omega
    · have HJ : Hid (j = (q % 64).toNat) := by show _ = _; omega
      go_wp2
      have e := HT.out p (by rw [H.out, HJ.out])
      refine bodyPost_ret (v := _) (by simp [results, Try.results48, go_sem, d0, d1, d2, d3, d4, d5, d6, d7]; rfl) rfl ⟨?_, ?_⟩
      · exact ret_sig rfl e rfl rfl rfl rfl rfl rfl
      · refine (((Below.refl _ _).alloc (Nat.le_refl _) _).alloc (by simp) _).trans ((HL.out.mono (by simp; omega)).trans ?_)
        iterate 9 (refine Below.setCell ?_ (by simp) _)
        exact Below.refl _ _
set_option maxHeartbeats 1000000 in
theorem refPut_at2 (s : Nat → Int) (q t : Int) (h0 : 0 ≤ q) (h5 : q < 512) (h1 : q / 64 = 2) (HB : Hid (∀ w, Calls Try.prog 65 #[(.agg #[.int .u64 (s 0), .int .u64 (s 1), .int .u64 (s 2), .int .u64 (s 3), .int .u64 (s 4), .int .u64 (s 5), .int .u64 (s 6), .int .u64 (s 7)]), .int .i64 q] w fun e w' => e = .returned (.bool false) ∧ Below w.heap.size w w'))
    (HT : Hid (∀ p : Int, p = 2 ^ (q % 64).toNat → IntKind.u64.wrap (s 2 + p) = t)) (w : World) :
    Calls Try.prog 48 #[(.agg #[.int .u64 (s 0), .int .u64 (s 1), .int .u64 (s 2), .int .u64 (s 3), .int .u64 (s 4), .int .u64 (s 5), .int .u64 (s 6), .int .u64 (s 7)]), .int .i64 q] w fun e w' => e = .returned (.agg #[.int .u64 (s 0), .int .u64 (s 1), .int .u64 t, .int .u64 (s 3), .int .u64 (s 4), .int .u64 (s 5), .int .u64 (s 6), .int .u64 (s 7)]) ∧ Below w.heap.size w w' := by
  go_enter Try.func48, Try.ntmps48
  go_wp2_with fail
  refine (HB.out _).mono ?_; rintro e w1 ⟨rfl, hb⟩
  have hz := hb.size
  obtain ⟨c0, c1, c2, c3, c4, c5, c6, c7, fz⟩ := blk_facts ((hb.block w.heap.size (by simp; omega)).trans (heap2_0 w _ _))
  obtain ⟨d0, d1, d2, d3, d4, d5, d6, d7, gz⟩ := blk_facts (s := noS) ((hb.block (w.heap.size + 1) (by simp)).trans (heap2_1 w _ _))
  simp only [World.size_alloc] at hz
  have HL := Lib.hid hb
  clear hb
  go_wp2_with fail
  go_loop [6, 7] (fun u i => ∃ (j : Nat) (p : Int), (j : Int) ≤ q % 64 ∧ u = .int .u64 p ∧ i = .int .i64 j ∧ 0 ≤ p ∧ p < 18446744073709551616 ∧ Hid (p = 2 ^ j)) (fun _ i => (q % 64).toNat - (intOf i).toNat)
  case atStart => exact ⟨0, 1, by omega, rfl, rfl, by omega, by omega, by show _ = _; simp⟩
  case round =>
    obtain ⟨j, p, hj, rfl, rfl, hp0, hp1, H⟩ := hrel
    by_cases hlt : (j : Int) < q % 64
    · have hp2 : p ≤ 4611686018427387904 := by
        rw [H.out]
        have e := Nat.pow_le_pow_right (n := 2) (by decide) (show j ≤ 62 by omega)
        rw [← Int.ofNat_le, Int.natCast_pow] at e
        exact e
      go_wp2
      go_round
      case rel => exact ⟨j + 1, _, by omega, rfl, by go_num, by omega, by omega, by show _ = _; rw [H.out, Int.pow_succ]; omega⟩
      case measure => simp [intOf]; omega
    · have HJ : Hid (j = (q % 64).toNat) := by show _ = _; omega
      go_wp2
      have e := HT.out p (by rw [H.out, HJ.out])
      refine bodyPost_ret (v := _) (by simp [results, Try.results48, go_sem, d0, d1, d2, d3, d4, d5, d6, d7]; rfl) rfl ⟨?_, ?_⟩
      · exact ret_sig rfl rfl e rfl rfl rfl rfl rfl
      · refine (((Below.refl _ _).alloc (Nat.le_refl _) _).alloc (by simp) _).trans ((HL.out.mono (by simp; omega)).trans ?_)
        iterate 9 (refine Below.setCell ?_ (by simp) _)
        exact Below.refl _ _
set_option maxHeartbeats 1000000 in
theorem refPut_at3 (s : Nat → Int) (q t : Int) (h0 : 0 ≤ q) (h5 : q < 512) (h1 : q / 64 = 3) (HB : Hid (∀ w, Calls Try.prog 65 #[(.agg #[.int .u64 (s 0), .int .u64 (s 1), .int .u64 (s 2), .int .u64 (s 3), .int .u64 (s 4), .int .u64 (s 5), .int .u64 (s 6), .int .u64 (s 7)]), .int .i64 q] w fun e w' => e = .returned (.bool false) ∧ Below w.heap.size w w'))
    (HT : Hid (∀ p : Int, p = 2 ^ (q % 64).toNat → IntKind.u64.wrap (s 3 + p) = t)) (w : World) :
    Calls Try.prog 48 #[(.agg #[.int .u64 (s 0), .int .u64 (s 1), .int .u64 (s 2), .int .u64 (s 3), .int .u64 (s 4), .int .u64 (s 5), .int .u64 (s 6), .int .u64 (s 7)]), .int .i64 q] w fun e w' => e = .returned (.agg #[.int .u64 (s 0), .int .u64 (s 1), .int .u64 (s 2), .int .u64 t, .int .u64 (s 4), .int .u64 (s 5), .int .u64 (s 6), .int .u64 (s 7)]) ∧ Below w.heap.size w w' := by
  go_enter Try.func48, Try.ntmps48
  go_wp2_with fail
  refine (HB.out _).mono ?_; rintro e w1 ⟨rfl, hb⟩
  have hz := hb.size
  obtain ⟨c0, c1, c2, c3, c4, c5, c6, c7, fz⟩ := blk_facts ((hb.block w.heap.size (by simp; omega)).trans (heap2_0 w _ _))
  obtain ⟨d0, d1, d2, d3, d4, d5, d6, d7, gz⟩ := blk_facts (s := noS) ((hb.block (w.heap.size + 1) (by simp)).trans (heap2_1 w _ _))
  simp only [World.size_alloc] at hz
  have HL := Lib.hid hb
  clear hb
  go_wp2_with fail
  go_loop [6, 7] (fun u i => ∃ (j : Nat) (p : Int), (j : Int) ≤ q % 64 ∧ u = .int .u64 p ∧ i = .int .i64 j ∧ 0 ≤ p ∧ p < 18446744073709551616 ∧ Hid (p = 2 ^ j)) (fun _ i => (q % 64).toNat - (intOf i).toNat)
  case atStart => exact ⟨0, 1, by omega, rfl, rfl, by omega, by omega, by show _ = _; simp⟩
  case round =>
    obtain ⟨j, p, hj, rfl, rfl, hp0, hp1, H⟩ := hrel
    by_cases hlt : (j : Int) < q % 64
    · have hp2 : p ≤ 4611686018427387904 := by
        rw [H.out]
        have e := Nat.pow_le_pow_right (n := 2) (by decide) (show j ≤ 62 by omega)
        rw [← Int.ofNat_le, Int.natCast_pow] at e
        exact e
      go_wp2
      go_round
      case rel => exact ⟨j + 1, _, by omega, rfl, by go_num, by omega, by omega, by show _ = _; rw [H.out, Int.pow_succ]; omega⟩
      case measure => simp [intOf]; omega
    · have HJ : Hid (j = (q % 64).toNat) := by show _ = _; omega
      go_wp2
      have e := HT.out p (by rw [H.out, HJ.out])
      refine bodyPost_ret (v := _) (by simp [results, Try.results48, go_sem, d0, d1, d2, d3, d4, d5, d6, d7]; rfl) rfl ⟨?_, ?_⟩
      · exact ret_sig rfl rfl rfl e rfl rfl rfl rfl
      · refine (((Below.refl _ _).alloc (Nat.le_refl _) _).alloc (by simp) _).trans ((HL.out.mono (by simp; omega)).trans ?_)
        iterate 9 (refine Below.setCell ?_ (by simp) _)
        exact Below.refl _ _
set_option maxHeartbeats 1000000 in
theorem refPut_at4 (s : Nat → Int) (q t : Int) (h0 : 0 ≤ q) (h5 : q < 512) (h1 : q / 64 = 4) (HB : Hid (∀ w, Calls Try.prog 65 #[(.agg #[.int .u64 (s 0), .int .u64 (s 1), .int .u64 (s 2), .int .u64 (s 3), .int .u64 (s 4), .int .u64 (s 5), .int .u64 (s 6), .int .u64 (s 7)]), .int .i64 q] w fun e w' => e = .returned (.bool false) ∧ Below w.heap.size w w'))
    (HT : Hid (∀ p : Int, p = 2 ^ (q % 64).toNat → IntKind.u64.wrap (s 4 + p) = t)) (w : World) :
    Calls Try.prog 48 #[(.agg #[.int .u64 (s 0), .int .u64 (s 1), .int .u64 (s 2), .int .u64 (s 3), .int .u64 (s 4), .int .u64 (s 5), .int .u64 (s 6), .int .u64 (s 7)]), .int .i64 q] w fun e w' => e = .returned (.agg #[.int .u64 (s 0), .int .u64 (s 1), .int .u64 (s 2), .int .u64 (s 3), .int .u64 t, .int .u64 (s 5), .int .u64 (s 6), .int .u64 (s 7)]) ∧ Below w.heap.size w w' := by
  go_enter Try.func48, Try.ntmps48
  go_wp2_with fail
  refine (HB.out _).mono ?_; rintro e w1 ⟨rfl, hb⟩
  have hz := hb.size
  obtain ⟨c0, c1, c2, c3, c4, c5, c6, c7, fz⟩ := blk_facts ((hb.block w.heap.size (by simp; omega)).trans (heap2_0 w _ _))
  obtain ⟨d0, d1, d2, d3, d4, d5, d6, d7, gz⟩ := blk_facts (s := noS) ((hb.block (w.heap.size + 1) (by simp)).trans (heap2_1 w _ _))
  simp only [World.size_alloc] at hz
  have HL := Lib.hid hb
  clear hb
  go_wp2_with fail
  go_loop [6, 7] (fun u i => ∃ (j : Nat) (p : Int), (j : Int) ≤ q % 64 ∧ u = .int .u64 p ∧ i = .int .i64 j ∧ 0 ≤ p ∧ p < 18446744073709551616 ∧ Hid (p = 2 ^ j)) (fun _ i => (q % 64).toNat - (intOf i).toNat)
  case atStart => exact ⟨0, 1, by omega, rfl, rfl, by omega, by omega, by show _ = _; simp⟩
  case round =>
    obtain ⟨j, p, hj, rfl, rfl, hp0, hp1, H⟩ := hrel
    by_cases hlt : (j : Int) < q % 64
    · have hp2 : p ≤ 4611686018427387904 := by
        rw [H.out]
        have e := Nat.pow_le_pow_right (n := 2) (by decide) (show j ≤ 62 by omega)
        rw [← Int.ofNat_le, Int.natCast_pow] at e
        exact e
      go_wp2
      go_round
      case rel => exact ⟨j + 1, _, by omega, rfl, by go_num, by omega, by omega, by show _ = _; rw [H.out, Int.pow_succ]; omega⟩
      case measure => simp [intOf]; omega
    · have HJ : Hid (j = (q % 64).toNat) := by show _ = _; omega
      go_wp2
      have e := HT.out p (by rw [H.out, HJ.out])
      refine bodyPost_ret (v := _) (by simp [results, Try.results48, go_sem, d0, d1, d2, d3, d4, d5, d6, d7]; rfl) rfl ⟨?_, ?_⟩
      · exact ret_sig rfl rfl rfl rfl e rfl rfl rfl
      · refine (((Below.refl _ _).alloc (Nat.le_refl _) _).alloc (by simp) _).trans ((HL.out.mono (by simp; omega)).trans ?_)
        iterate 9 (refine Below.setCell ?_ (by simp) _)
        exact Below.refl _ _
set_option maxHeartbeats 1000000 in
theorem refPut_at5 (s : Nat → Int) (q t : Int) (h0 : 0 ≤ q) (h5 : q < 512) (h1 : q / 64 = 5) (HB : Hid (∀ w, Calls Try.prog 65 #[(.agg #[.int .u64 (s 0), .int .u64 (s 1), .int .u64 (s 2), .int .u64 (s 3), .int .u64 (s 4), .int .u64 (s 5), .int .u64 (s 6), .int .u64 (s 7)]), .int .i64 q] w fun e w' => e = .returned (.bool false) ∧ Below w.heap.size w w'))
    (HT : Hid (∀ p : Int, p = 2 ^ (q % 64).toNat → IntKind.u64.wrap (s 5 + p) = t)) (w : World) :
    Calls Try.prog 48 #[(.agg #[.int .u64 (s 0), .int .u64 (s 1), .int .u64 (s 2), .int .u64 (s 3), .int .u64 (s 4), .int .u64 (s 5), .int .u64 (s 6), .int .u64 (s 7)]), .int .i64 q] w fun e w' => e = .returned (.agg #[.int .u64 (s 0), .int .u64 (s 1), .int .u64 (s 2), .int .u64 (s 3), .int .u64 (s 4), .int .u64 t, .int .u64 (s 6), .int .u64 (s 7)]) ∧ Below w.heap.size w w' := by
  go_enter Try.func48, Try.ntmps48
  go_wp2_with fail
  refine (HB.out _).mono ?_; rintro e w1 ⟨rfl, hb⟩
  have hz := hb.size
  obtain ⟨c0, c1, c2, c3, c4, c5, c6, c7, fz⟩ := blk_facts ((hb.block w.heap.size (by simp; omega)).trans (heap2_0 w _ _))
  obtain ⟨d0, d1, d2, d3, d4, d5, d6, d7, gz⟩ := blk_facts (s := noS) ((hb.block (w.heap.size + 1) (by simp)).trans (heap2_1 w _ _))
  simp only [World.size_alloc] at hz
  have HL := Lib.hid hb
  clear hb
  go_wp2_with fail
  go_loop [6, 7] (fun u i => ∃ (j : Nat) (p : Int), (j : Int) ≤ q % 64 ∧ u = .int .u64 p ∧ i = .int .i64 j ∧ 0 ≤ p ∧ p < 18446744073709551616 ∧ Hid (p = 2 ^ j)) (fun _ i => (q % 64).toNat - (intOf i).toNat)
  case atStart => exact ⟨0, 1, by omega, rfl, rfl, by omega, by omega, by show _ = _; simp⟩
  case round =>
    obtain ⟨j, p, hj, rfl, rfl, hp0, hp1, H⟩ := hrel
    by_cases hlt : (j : Int) < q % 64
    · have hp2 : p ≤ 4611686018427387904 := by
        rw [H.out]
        have e := Nat.pow_le_pow_right (n := 2) (by decide) (show j ≤ 62 by omega)
        rw [← Int.ofNat_le, Int.natCast_pow] at e
        exact e
      go_wp2
      go_round
      case rel => exact ⟨j + 1, _, by omega, rfl, by go_num, by omega, by omega, by show _ = _; rw [H.out, Int.pow_succ]; omega⟩
      case measure => simp [intOf]; omega
    · have HJ : Hid (j = (q % 64).toNat) := by show _ = _; omega
      go_wp2
      have e := HT.out p (by rw [H.out, HJ.out])
      refine bodyPost_ret (v := _) (by simp [results, Try.results48, go_sem, d0, d1, d2, d3, d4, d5, d6, d7]; rfl) rfl ⟨?_, ?_⟩
      · exact ret_sig rfl rfl rfl rfl rfl e rfl rfl
      · refine (((Below.refl _ _).alloc (Nat.le_refl _) _).alloc (by simp) _).trans ((HL.out.mono (by simp; omega)).trans ?_)
        iterate 9 (refine Below.setCell ?_ (by simp) _)
        exact Below.refl _ _
set_option maxHeartbeats 1000000 in
theorem refPut_at6 (s : Nat → Int) (q t : Int) (h0 : 0 ≤ q) (h5 : q < 512) (h1 : q / 64 = 6) (HB : Hid (∀ w, Calls Try.prog 65 #[(.agg #[.int .u64 (s 0), .int .u64 (s 1), .int .u64 (s 2), .int .u64 (s 3), .int .u64 (s 4), .int .u64 (s 5), .int .u64 (s 6), .int .u64 (s 7)]), .int .i64 q] w fun e w' => e = .returned (.bool false) ∧ Below w.heap.size w w'))
    (HT : Hid (∀ p : Int, p = 2 ^ (q % 64).toNat → IntKind.u64.wrap (s 6 + p) = t)) (w : World) :
    Calls Try.prog 48 #[(.agg #[.int .u64 (s 0), .int .u64 (s 1), .int .u64 (s 2), .int .u64 (s 3), .int .u64 (s 4), .int .u64 (s 5), .int .u64 (s 6), .int .u64 (s 7)]), .int .i64 q] w fun e w' => e = .returned (.agg #[.int .u64 (s 0), .int .u64 (s 1), .int .u64 (s 2), .int .u64 (s 3), .int .u64 (s 4), .int .u64 (s 5), .int .u64 t, .int .u64 (s 7)]) ∧ Below w.heap.size w w' := by
  go_enter Try.func48, Try.ntmps48
  go_wp2_with fail
  refine (HB.out _).mono ?_; rintro e w1 ⟨rfl, hb⟩
  have hz := hb.size
  obtain ⟨c0, c1, c2, c3, c4, c5, c6, c7, fz⟩ := blk_facts ((hb.block w.heap.size (by simp; omega)).trans (heap2_0 w _ _))
  obtain ⟨d0, d1, d2, d3, d4, d5, d6, d7, gz⟩ := blk_facts (s := noS) ((hb.block (w.heap.size + 1) (by simp)).trans (heap2_1 w _ _))
  simp only [World.size_alloc] at hz
  have HL := Lib.hid hb
  clear hb
  go_wp2_with fail
  go_loop [6, 7] (fun u i => ∃ (j : Nat) (p : Int), (j : Int) ≤ q % 64 ∧ u = .int .u64 p ∧ i = .int .i64 j ∧ 0 ≤ p ∧ p < 18446744073709551616 ∧ Hid (p = 2 ^ j)) (fun _ i => (q % 64).toNat - (intOf i).toNat)
  case atStart => exact ⟨0, 1, by omega, rfl, rfl, by omega, by omega, by show _ = _; simp⟩
  case round =>
    obtain ⟨j, p, hj, rfl, rfl, hp0, hp1, H⟩ := hrel
    by_cases hlt : (j : Int) < q % 64
    · have hp2 : p ≤ 4611686018427387904 := by
        rw [H.out]
        have e := Nat.pow_le_pow_right (n := 2) (by decide) (show j ≤ 62 by omega)
        rw [← Int.ofNat_le, Int.natCast_pow] at e
        exact e
      go_wp2
      go_round
      case rel => exact ⟨j + 1, _, by omega, rfl, by go_num, by omega, by omega, by show _ = _; rw [H.out, Int.pow_succ]; omega⟩
      case measure => simp [intOf]; omega
    · have HJ : Hid (j = (q % 64).toNat) := by show _ = _; omega
      go_wp2
      have e := HT.out p (by rw [H.out, HJ.out])
      refine bodyPost_ret (v := _) (by simp [results, Try.results48, go_sem, d0, d1, d2, d3, d4, d5, d6, d7]; rfl) rfl ⟨?_, ?_⟩
      · exact ret_sig rfl rfl rfl rfl rfl rfl e rfl
      · refine (((Below.refl _ _).alloc (Nat.le_refl _) _).alloc (by simp) _).trans ((HL.out.mono (by simp; omega)).trans ?_)
        iterate 9 (refine Below.setCell ?_ (by simp) _)
        exact Below.refl _ _
set_option maxHeartbeats 1000000 in
theorem refPut_at7 (s : Nat → Int) (q t : Int) (h0 : 0 ≤ q) (h5 : q < 512) (h1 : q / 64 = 7) (HB : Hid (∀ w, Calls Try.prog 65 #[(.agg #[.int .u64 (s 0), .int .u64 (s 1), .int .u64 (s 2), .int .u64 (s 3), .int .u64 (s 4), .int .u64 (s 5), .int .u64 (s 6), .int .u64 (s 7)]), .int .i64 q] w fun e w' => e = .returned (.bool false) ∧ Below w.heap.size w w'))
    (HT : Hid (∀ p : Int, p = 2 ^ (q % 64).toNat → IntKind.u64.wrap (s 7 + p) = t)) (w : World) :
    Calls Try.prog 48 #[(.agg #[.int .u64 (s 0), .int .u64 (s 1), .int .u64 (s 2), .int .u64 (s 3), .int .u64 (s 4), .int .u64 (s 5), .int .u64 (s 6), .int .u64 (s 7)]), .int .i64 q] w fun e w' => e = .returned (.agg #[.int .u64 (s 0), .int .u64 (s 1), .int .u64 (s 2), .int .u64 (s 3), .int .u64 (s 4), .int .u64 (s 5), .int .u64 (s 6), .int .u64 t]) ∧ Below w.heap.size w w' := by
  go_enter Try.func48, Try.ntmps48
  go_wp2_with fail
  refine (HB.out _).mono ?_; rintro e w1 ⟨rfl, hb⟩
  have hz := hb.size
  obtain ⟨c0, c1, c2, c3, c4, c5, c6, c7, fz⟩ := blk_facts ((hb.block w.heap.size (by simp; omega)).trans (heap2_0 w _ _))
  obtain ⟨d0, d1, d2, d3, d4, d5, d6, d7, gz⟩ := blk_facts (s := noS) ((hb.block (w.heap.size + 1) (by simp)).trans (heap2_1 w _ _))
  simp only [World.size_alloc] at hz
  have HL := Lib.hid hb
  clear hb
  go_wp2_with fail
  go_loop [6, 7] (fun u i => ∃ (j : Nat) (p : Int), (j : Int) ≤ q % 64 ∧ u = .int .u64 p ∧ i = .int .i64 j ∧ 0 ≤ p ∧ p < 18446744073709551616 ∧ Hid (p = 2 ^ j)) (fun _ i => (q % 64).toNat - (intOf i).toNat)
  case atStart => exact ⟨0, 1, by omega, rfl, rfl, by omega, by omega, by show _ = _; simp⟩
  case round =>
    obtain ⟨j, p, hj, rfl, rfl, hp0, hp1, H⟩ := hrel
    by_cases hlt : (j : Int) < q % 64
    · have hp2 : p ≤ 4611686018427387904 := by
        rw [H.out]
        have e := Nat.pow_le_pow_right (n := 2) (by decide) (show j ≤ 62 by omega)
        rw [← Int.ofNat_le, Int.natCast_pow] at e
        exact e
      go_wp2
      go_round
      case rel => exact ⟨j + 1, _, by omega, rfl, by go_num, by omega, by omega, by show _ = _; rw [H.out, Int.pow_succ]; omega⟩
      case measure => simp [intOf]; omega
    · have HJ : Hid (j = (q % 64).toNat) := by show _ = _; omega
      go_wp2
      have e := HT.out p (by rw [H.out, HJ.out])
      refine bodyPost_ret (v := _) (by simp [results, Try.results48, go_sem, d0, d1, d2, d3, d4, d5, d6, d7]; rfl) rfl ⟨?_, ?_⟩
      · exact ret_sig rfl rfl rfl rfl rfl rfl rfl e
      · refine (((Below.refl _ _).alloc (Nat.le_refl _) _).alloc (by simp) _).trans ((HL.out.mono (by simp; omega)).trans ?_)
        iterate 9 (refine Below.setCell ?_ (by simp) _)
        exact Below.refl _ _
theorem refPut_any (s : Nat → Int) (hs : Wds s) (k : Nat) (hk : k < 512) (w : World) :
    Calls Try.prog 48 #[(.agg #[.int .u64 (s 0), .int .u64 (s 1), .int .u64 (s 2), .int .u64 (s 3), .int .u64 (s 4), .int .u64 (s 5), .int .u64 (s 6), .int .u64 (s 7)]), .int .i64 k] w fun e w' => e = .returned (.agg #[.int .u64 (putB s k 0), .int .u64 (putB s k 1), .int .u64 (putB s k 2), .int .u64 (putB s k 3), .int .u64 (putB s k 4), .int .u64 (putB s k 5), .int .u64 (putB s k 6), .int .u64 (putB s k 7)]) ∧ Below w.heap.size w w' := by
  cases hb : bitB s k with
  | true =>
    have HE := Lib.hid (putB_of_bit s hs k hb)
    simp only [HE.out]
    have HB : Hid (∀ w, Calls Try.prog 65 #[(.agg #[.int .u64 (s 0), .int .u64 (s 1), .int .u64 (s 2), .int .u64 (s 3), .int .u64 (s 4), .int .u64 (s 5), .int .u64 (s 6), .int .u64 (s 7)]), .int .i64 k] w fun e w' => e = .returned (.bool true) ∧ Below w.heap.size w w') := fun w => by rw [← hb]; exact refBit_any s hs k hk w
    clear hb HE
    go_enter Try.func48, Try.ntmps48
    go_wp2_with fail
    refine (HB.out _).mono ?_; rintro e w1 ⟨rfl, hb⟩
    obtain ⟨c0, c1, c2, c3, c4, c5, c6, c7, fz⟩ := blk_facts ((hb.block w.heap.size (by simp; omega)).trans (heap2_0 w _ _))
    obtain ⟨d0, d1, d2, d3, d4, d5, d6, d7, gz⟩ := blk_facts (s := noS) ((hb.block (w.heap.size + 1) (by simp)).trans (heap2_1 w _ _))
    have HL := Lib.hid hb
    clear hb
    go_wp2_with fail
    refine bodyPost_ret (v := _) (by simp [results, Try.results48, go_sem, d0, d1, d2, d3, d4, d5, d6, d7]) rfl ⟨rfl, ?_⟩
    refine (((Below.refl _ _).alloc (Nat.le_refl _) _).alloc (by simp) _).trans ((HL.out.mono (by simp; omega)).trans ?_)
    iterate 8 (refine Below.setCell ?_ (by simp) _)
    exact Below.refl _ _
  | false =>
    have HB : Hid (∀ w, Calls Try.prog 65 #[(.agg #[.int .u64 (s 0), .int .u64 (s 1), .int .u64 (s 2), .int .u64 (s 3), .int .u64 (s 4), .int .u64 (s 5), .int .u64 (s 6), .int .u64 (s 7)]), .int .i64 k] w fun e w' => e = .returned (.bool false) ∧ Below w.heap.size w w') := fun w => by rw [← hb]; exact refBit_any s hs k hk w
    have hT : Hid (∀ p : Int, p = 2 ^ ((k : Int) % 64).toNat → IntKind.u64.wrap (s (k / 64) + p) = putB s k (k / 64)) := fun p hp => put_add s hs k hb p (by rw [hp]; congr 1)
    have hne : ∀ j, j ≠ k / 64 → putB s k j = s j := fun j hj => putB_ne s k j hj
    rcases (show k / 64 = 0 ∨ k / 64 = 1 ∨ k / 64 = 2 ∨ k / 64 = 3 ∨ k / 64 = 4 ∨ k / 64 = 5 ∨ k / 64 = 6 ∨ k / 64 = 7 by omega) with h | h | h | h | h | h | h | h
    · rw [h] at hT hne
      rw [hne 1 (by decide), hne 2 (by decide), hne 3 (by decide), hne 4 (by decide), hne 5 (by decide), hne 6 (by decide), hne 7 (by decide)]
      exact refPut_at0 s k _ (by omega) (by omega) (by omega) HB hT w
    · rw [h] at hT hne
      rw [hne 0 (by decide), hne 2 (by decide), hne 3 (by decide), hne 4 (by decide), hne 5 (by decide), hne 6 (by decide), hne 7 (by decide)]
      exact refPut_at1 s k _ (by omega) (by omega) (by omega) HB hT w
    · rw [h] at hT hne
      rw [hne 0 (by decide), hne 1 (by decide), hne 3 (by decide), hne 4 (by decide), hne 5 (by decide), hne 6 (by decide), hne 7 (by decide)]
      exact refPut_at2 s k _ (by omega) (by omega) (by omega) HB hT w
    · rw [h] at hT hne
      rw [hne 0 (by decide), hne 1 (by decide), hne 2 (by decide), hne 4 (by decide), hne 5 (by decide), hne 6 (by decide), hne 7 (by decide)]
      exact refPut_at3 s k _ (by omega) (by omega) (by omega) HB hT w
    · rw [h] at hT hne
      rw [hne 0 (by decide), hne 1 (by decide), hne 2 (by decide), hne 3 (by decide), hne 5 (by decide), hne 6 (by decide), hne 7 (by decide)]
      exact refPut_at4 s k _ (by omega) (by omega) (by omega) HB hT w
    · rw [h] at hT hne
      rw [hne 0 (by decide), hne 1 (by decide), hne 2 (by decide), hne 3 (by decide), hne 4 (by decide), hne 6 (by decide), hne 7 (by decide)]
      exact refPut_at5 s k _ (by omega) (by omega) (by omega) HB hT w
    · rw [h] at hT hne
      rw [hne 0 (by decide), hne 1 (by decide), hne 2 (by decide), hne 3 (by decide), hne 4 (by decide), hne 5 (by decide), hne 7 (by decide)]
      exact refPut_at6 s k _ (by omega) (by omega) (by omega) HB hT w
    · rw [h] at hT hne
      rw [hne 0 (by decide), hne 1 (by decide), hne 2 (by decide), hne 3 (by decide), hne 4 (by decide), hne 5 (by decide), hne 6 (by decide)]
      exact refPut_at7 s k _ (by omega) (by omega) (by omega) HB hT w
theorem refWith_any (s : Nat → Int) (hs : Wds s) (c : Int) (w : World) :
    Calls Try.prog 28 #[(.agg #[.int .u64 (s 0), .int .u64 (s 1), .int .u64 (s 2), .int .u64 (s 3), .int .u64 (s 4), .int .u64 (s 5), .int .u64 (s 6), .int .u64 (s 7)]), .int .i64 c] w fun e w' => e = .returned (.agg #[.int .u64 (withS s c 0), .int .u64 (withS s c 1), .int .u64 (withS s c 2), .int .u64 (withS s c 3), .int .u64 (withS s c 4), .int .u64 (withS s c 5), .int .u64 (withS s c 6), .int .u64 (withS s c 7)]) ∧ Below w.heap.size w w' := by
  have HP : Hid (∀ w, Calls Try.prog 48 #[(.agg #[.int .u64 (s 0), .int .u64 (s 1), .int .u64 (s 2), .int .u64 (s 3), .int .u64 (s 4), .int .u64 (s 5), .int .u64 (s 6), .int .u64 (s 7)]), .int .i64 (sigHashZ c)] w fun e w' => e = .returned (.agg #[.int .u64 (withS s c 0), .int .u64 (withS s c 1), .int .u64 (withS s c 2), .int .u64 (withS s c 3), .int .u64 (withS s c 4), .int .u64 (withS s c 5), .int .u64 (withS s c 6), .int .u64 (withS s c 7)]) ∧ Below w.heap.size w w') := fun w => by
    rw [hashN_eq]; exact refPut_any s hs (hashN c) (hashN_lt c) w
  clear hs
  generalize withS s c = t at *
  go_enter Try.func28, Try.ntmps28
  go_wp2_with fail
  refine (refSigHash_any c _).mono ?_; rintro e w1 ⟨rfl, rfl⟩
  go_wp2_with fail
  refine (HP.out _).mono ?_; rintro e w1 ⟨rfl, hb⟩
  obtain ⟨d0, d1, d2, d3, d4, d5, d6, d7, gz⟩ := blk_facts (s := noS) ((hb.block (w.heap.size + 1) (by simp)).trans (heap2_1 w _ _))
  have HL := Lib.hid hb
  clear hb
  go_wp2_with fail
  refine bodyPost_ret (v := _) (by simp [results, Try.results28, go_sem, d0, d1, d2, d3, d4, d5, d6, d7]) rfl ⟨rfl, ?_⟩
  refine (((Below.refl _ _).alloc (Nat.le_refl _) _).alloc (by simp) _).trans ((HL.out.mono (by simp; omega)).trans ?_)
  iterate 8 (refine Below.setCell ?_ (by simp) _)
  exact Below.refl _ _
end Go.Proofs.Ytojkeahffabifaa
