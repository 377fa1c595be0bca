/- Contracts of layer 2: the library's TrailingZeros64 over its table; Bits. -/
import Derived.Test.YtcnkoiogfhggeaaDoorC2l
import Derived.Laws.Bits64b
namespace Go.Proofs.YtcnkoiogfhggeaaDoor
open Go.RowKit
set_option linter.unusedVariables false
/-- The library's table lies where it should. -/
def Tab (w : World) : Prop := ∀ j, j < 64 → w.cell? ⟨0, j, none⟩ = some (.int .u8 (Lib.deBruijn64tab.getD j 0))
theorem Tab.below {w w' : World} {B : Nat} (h : Tab w) (hb : Below B w w') (hB : 0 < B) : Tab w' := fun j hj => (hb.cell hB).trans (h j hj)
theorem tz_core (x k idx : Nat) (w : World) (hx0 : ((x : Int) == 0) = false)
    (key : IntKind.u64.wrap (bits BinOp.and IntKind.u64 (x : Int) (IntKind.u64.wrap (-(x : Int))) * 285870213051353865) / 288230376151711744 = (idx : Int))
    (hi : idx < 64) (hk : k < 64) (hcell : w.cell? ⟨0, idx, none⟩ = some (.int .u8 k)) :
    Calls Tryd.prog 39 #[.int .u64 x] w fun e w' => e = .returned (.int .i64 k) ∧ w = w' := by
  go_enter Tryd.func39, Tryd.ntmps39
  go_wp2_with (simp only [key])
  go_ret
  exact ⟨rfl, rfl⟩
theorem tz_any (x : Nat) (hx : x < 18446744073709551616) (hx0 : x ≠ 0) (w : World) (hT : Tab w) :
    Calls Tryd.prog 39 #[.int .u64 x] w fun e w' => e = .returned (.int .i64 (Lib.ctz 64 x)) ∧ w = w' := by
  obtain ⟨hlow, hk⟩ := Lib.lowest_bit 64 x hx0 hx
  obtain ⟨hi, htab⟩ := Lib.deBruijn64_at _ hk
  have hcell := hT _ hi
  rw [htab] at hcell
  refine tz_core x _ _ w (by simp; omega) ?_ hi hk hcell
  have e1 : IntKind.u64.wrap (-(x : Int)) = ((18446744073709551616 - x : Nat) : Int) := by rw [IntKind.wrap_u64]; omega
  have hlow' : x &&& (18446744073709551616 - x) = 2 ^ Lib.ctz 64 x := hlow
  rw [e1, bits_and_u64_nat x _ hx (by omega), hlow', IntKind.wrap_u64]
  generalize 2 ^ Lib.ctz 64 x = a
  omega
theorem idx_0 (s : Nat → Int) (w : World) : (Instr.index 25 (.agg #[.int .u64 (s 0), .int .u64 (s 1), .int .u64 (s 2), .int .u64 (s 3), .int .u64 (s 4), .int .u64 (s 5), .int .u64 (s 6), .int .u64 (s 7)]) (.int .i64 0)).run Tryd.prog w = .ok (.int .u64 (s 0)) w := by kernel_rfl
theorem idx_1 (s : Nat → Int) (w : World) : (Instr.index 25 (.agg #[.int .u64 (s 0), .int .u64 (s 1), .int .u64 (s 2), .int .u64 (s 3), .int .u64 (s 4), .int .u64 (s 5), .int .u64 (s 6), .int .u64 (s 7)]) (.int .i64 1)).run Tryd.prog w = .ok (.int .u64 (s 1)) w := by kernel_rfl
theorem idx_2 (s : Nat → Int) (w : World) : (Instr.index 25 (.agg #[.int .u64 (s 0), .int .u64 (s 1), .int .u64 (s 2), .int .u64 (s 3), .int .u64 (s 4), .int .u64 (s 5), .int .u64 (s 6), .int .u64 (s 7)]) (.int .i64 2)).run Tryd.prog w = .ok (.int .u64 (s 2)) w := by kernel_rfl
theorem idx_3 (s : Nat → Int) (w : World) : (Instr.index 25 (.agg #[.int .u64 (s 0), .int .u64 (s 1), .int .u64 (s 2), .int .u64 (s 3), .int .u64 (s 4), .int .u64 (s 5), .int .u64 (s 6), .int .u64 (s 7)]) (.int .i64 3)).run Tryd.prog w = .ok (.int .u64 (s 3)) w := by kernel_rfl
theorem idx_4 (s : Nat → Int) (w : World) : (Instr.index 25 (.agg #[.int .u64 (s 0), .int .u64 (s 1), .int .u64 (s 2), .int .u64 (s 3), .int .u64 (s 4), .int .u64 (s 5), .int .u64 (s 6), .int .u64 (s 7)]) (.int .i64 4)).run Tryd.prog w = .ok (.int .u64 (s 4)) w := by kernel_rfl
theorem idx_5 (s : Nat → Int) (w : World) : (Instr.index 25 (.agg #[.int .u64 (s 0), .int .u64 (s 1), .int .u64 (s 2), .int .u64 (s 3), .int .u64 (s 4), .int .u64 (s 5), .int .u64 (s 6), .int .u64 (s 7)]) (.int .i64 5)).run Tryd.prog w = .ok (.int .u64 (s 5)) w := by kernel_rfl
theorem idx_6 (s : Nat → Int) (w : World) : (Instr.index 25 (.agg #[.int .u64 (s 0), .int .u64 (s 1), .int .u64 (s 2), .int .u64 (s 3), .int .u64 (s 4), .int .u64 (s 5), .int .u64 (s 6), .int .u64 (s 7)]) (.int .i64 6)).run Tryd.prog w = .ok (.int .u64 (s 6)) w := by kernel_rfl
theorem idx_7 (s : Nat → Int) (w : World) : (Instr.index 25 (.agg #[.int .u64 (s 0), .int .u64 (s 1), .int .u64 (s 2), .int .u64 (s 3), .int .u64 (s 4), .int .u64 (s 5), .int .u64 (s 6), .int .u64 (s 7)]) (.int .i64 7)).run Tryd.prog w = .ok (.int .u64 (s 7)) w := by kernel_rfl
theorem idx_any (s : Nat → Int) (k : Nat) (hk : k < 8) (w : World) : (Instr.index 25 (.agg #[.int .u64 (s 0), .int .u64 (s 1), .int .u64 (s 2), .int .u64 (s 3), .int .u64 (s 4), .int .u64 (s 5), .int .u64 (s 6), .int .u64 (s 7)]) (.int .i64 k)).run Tryd.prog w = .ok (.int .u64 (s k)) w := by
  match k, hk with
  | 0, _ => exact idx_0 s w
  | 1, _ => exact idx_1 s w
  | 2, _ => exact idx_2 s w
  | 3, _ => exact idx_3 s w
  | 4, _ => exact idx_4 s w
  | 5, _ => exact idx_5 s w
  | 6, _ => exact idx_6 s w
  | 7, _ => exact idx_7 s w
/-- A number below 2^64. -/
def Lt64 (x : Nat) : Prop := x < 18446744073709551616
theorem Tab.pos {w : World} (h : Tab w) : 0 < w.heap.size := World.block_lt_of_cell? w ⟨_, 0, none⟩ (h 0 (by omega))
set_option maxRecDepth 100000 in
set_option maxHeartbeats 2000000 in
theorem bits_any (s : Nat → Int) (hs : Wds s) (w : World) (hT : Tab w) : Calls Tryd.prog 17 #[(.agg #[.int .u64 (s 0), .int .u64 (s 1), .int .u64 (s 2), .int .u64 (s 3), .int .u64 (s 4), .int .u64 (s 5), .int .u64 (s 6), .int .u64 (s 7)])] w (IntsOut w (bitsI s 512)) := by
  obtain ⟨i0, hi, hz0, hz1, hz2⟩ := info_parts infoInt
  have HS := Lib.hid hs
  have HTab := Lib.hid hT
  clear hs hT
  go_enter Tryd.func17, Tryd.ntmps17
  go_wp2_with fail
  go_loopw [3, 4, 5, 7] (fun v _ _ i wr => ∃ k : Nat, k ≤ 8 ∧ i = .int .i64 k ∧ w.heap.size + 1 ≤ wr.heap.size ∧ wr.ownsRow (w.heap.size + 1) 3 1 v (bitsI s (64 * k)).length ((bitsI s (64 * k)).map (Value.int .i64)) ∧ Hid (Below w.heap.size w wr)) (fun _ _ _ i _ => 8 - (intOf i).toNat)
  case atStart => exact ⟨0, by omega, rfl, by simp, World.ownsRow_nil _ _ _ _, (Below.refl _ _).alloc (Nat.le_refl _) _⟩
  case round =>
    obtain ⟨k, hk, rfl, hsz, hown, HH⟩ := hrel
    obtain ⟨wo, rfl⟩ : ∃ wo : World, wo = wr := ⟨_, rfl⟩
    by_cases hlt : k < 8
    · obtain ⟨y, hy⟩ := Int.eq_ofNat_of_zero_le (HS.out k).1
      have hy2 := (HS.out k).2
      have HY : Hid ((s k).toNat = y) := by show _ = _; omega
      have hix := idx_any s k hlt
      have hd8 : decide ((k : Int) < 8) = true := by simp; omega
      rw [hy] at hix hy2
      have HYs := Lib.hid hy
      have HY2 : Lt64 y := by unfold Lt64; omega
      have HO := Lib.hid hown
      clear hy hown hy2
      go_wp2_with fail
      clear hix
      go_loopw [3, 5] (fun v u wr => ∃ t x : Nat, t ≤ 64 ∧ u = .int .u64 x ∧ Lt64 x ∧ w.heap.size + 1 ≤ wr.heap.size ∧ wr.ownsRow (w.heap.size + 1) 3 1 v (bitsI s (64 * k + t)).length ((bitsI s (64 * k + t)).map (Value.int .i64)) ∧ Hid (Left y t x ∧ Below w.heap.size w wr)) (fun _ u _ => (intOf u).toNat)
      case atStart => exact ⟨0, y, by omega, rfl, HY2, hsz, HO.out, ⟨left_zero y, HH.out⟩⟩
      case round =>
        obtain ⟨t, x, ht, rfl, HX, hsz2, hown, HI⟩ := hrel
        by_cases hx0 : x = 0
        · subst hx0
          have HO2 := Lib.hid hown
          clear hown
          go_wp2_with fail
          go_roundw
          case rel =>
            have e := bitsI_end s k t ht (by rw [HY.out]; exact left_done HI.out.1)
            exact ⟨k + 1, by omega, by go_num, hsz2, by rw [e]; exact HO2.out, HI.out.2⟩
          case measure => simp [intOf]; omega
        · have hx1 : 0 < x := by omega
          have HSt := Lib.hid (left_step HI.out.1 hx0 HX)
          have hc64 := HSt.out.2.1
          have HTc : Hid (∀ wx, Tab wx → Calls Tryd.prog 39 #[.int .u64 x] wx fun e w' => e = .returned (.int .i64 (Lib.ctz 64 x)) ∧ wx = w') := fun wx h => tz_any x HX hx0 wx h
          have HTw : Hid (Tab wr) := HTab.out.below HI.out.2 HTab.out.pos
          have hlen := bitsI_len s (64 * k + t)
          clear hx0
          generalize Lib.ctz 64 x = c at *
          go_wp2_with (first | (go_at_call 39; refine (HTc.out _ HTw.out).mono ?_; rintro e w' ⟨rfl, rfl⟩) | (at_builtin; refine wpList_append_own _ rfl (.tmp 17) (.tmp 23) 22 rfl (w.heap.size + 1) 3 i0 (.int .i64 0) 1 8 Tryd.underlying22 hi hz0 hz1 hz2 rfl (by decide) _ _ _ rfl (hown.alloc _) ⟨wr.heap.size, 0, none⟩ 1 1 [.int .i64 (↑k * 64 + ↑c)] rfl rfl ?c1 ?c2 ?c3 ?c4 ?c5 ?_))
          case c1 => exact cell_one_new _ _ _
          case c2 => intro u hu; simp at hu; subst hu; rfl
          case c3 => unfold maxLen; omega
          case c4 => omega
          case c5 => simp; omega
          · intro v' w2 hown' hgrow _
            have hbel' : Below (w.heap.size + 1) wr w2 := ((Below.refl _ _).alloc (by omega) _).grown hgrow (by simp; omega) (fun j hj => (hown.lt j hj).1)
            have hN := bitsI_next s k t c HSt.out.1 hc64 (by rw [HY.out]; exact HSt.out.2.2.1) (by rw [HY.out]; exact HSt.out.2.2.2.1)
            have hcast : ((64 * k + c : Nat) : Int) = ↑k * 64 + ↑c := by omega
            have HO2 : Hid (w2.ownsRow (w.heap.size + 1) 3 1 v' (bitsI s (64 * k + (c + 1))).length ((bitsI s (64 * k + (c + 1))).map (Value.int .i64))) := by show World.ownsRow _ _ _ _ _ _ _; rw [hN, hcast]; simpa using hown'
            have HB2 := Lib.hid hbel'
            have hz4 := hbel'.size
            have HA : Hid (bits BinOp.and IntKind.u64 (x : Int) (IntKind.u64.wrap ((x : Int) - 1)) = ((x &&& (x - 1) : Nat) : Int)) := by
              have e1 : IntKind.u64.wrap ((x : Int) - 1) = ((x - 1 : Nat) : Int) := by unfold Lt64 at HX; rw [u64_wrap]; omega
              show _ = _
              rw [e1, bits_and_u64_nat x (x - 1) HX (by unfold Lt64 at HX; omega)]
            clear hown' hown hgrow hN hbel' hcast
            go_wp2_with fail
            go_roundw
            case rel =>
              have h6 := HSt.out.2.2.2.2.2
              exact ⟨c + 1, x &&& (x - 1), by omega, congrArg (Value.int .u64) HA.out, by unfold Lt64 at *; omega, by omega, HO2.out, ⟨HSt.out.2.2.2.2.1, HI.out.2.trans (HB2.out.mono (by omega))⟩⟩
            case measure =>
              have h6 := HSt.out.2.2.2.2.2
              simp [intOf, HA.out]; omega
    · obtain rfl : k = 8 := by omega
      have HO := Lib.hid hown
      clear hown
      go_wp2_with fail
      go_ret
      exact ⟨_, rfl, ownsRow_mono HO.out (by omega), HH.out⟩
end Go.Proofs.YtcnkoiogfhggeaaDoor
