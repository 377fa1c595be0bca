/- Contracts of layer 2: Text by the reference. -/
import Derived.Test.YtcnkoiogfhggeaaDoorC2r
import Derived.Test.YtcnkoiogfhggeaaDoorW3
import Derived.Maps.AppendAt
namespace Go.Proofs.YtcnkoiogfhggeaaDoor
open Go.RowKit
set_option linter.unusedVariables false
/-- A word's digits, the lowest first. -/
def revL (x n : Nat) : List Int := (List.range n).map fun j => hexd (digN x j)
theorem revL_succ (x n : Nat) : revL x (n + 1) = revL x n ++ [hexd (digN x n)] := by simp [revL, List.range_succ]
theorem revL_length (x n : Nat) : (revL x n).length = n := by simp [revL]
theorem revL_get (x n j : Nat) (h : j < n) : ((revL x n).map (Value.int .u8)).getD j default = .int .u8 (hexd (digN x j)) := by
  simp [revL, List.getD, h]
theorem div_pow16 (x n : Nat) : x / 16 ^ n / 16 = x / 16 ^ (n + 1) := by rw [Nat.pow_succ, Nat.div_div_eq_div_mul]
set_option maxRecDepth 100000 in
set_option maxHeartbeats 4000000 in
theorem refText_any (s : Nat → Int) (hs : Wds s) (w : World) : Calls Tryd.prog 32 #[(.agg #[.int .u64 (s 0), .int .u64 (s 1), .int .u64 (s 2), .int .u64 (s 3), .int .u64 (s 4), .int .u64 (s 5), .int .u64 (s 6), .int .u64 (s 7)])] w fun e w' => e = .returned (.string (strOfNums (textL s 8))) ∧ Below w.heap.size w w' := by
  obtain ⟨i0, hi, hI0, hI1, hI2⟩ := info_parts infoU8
  have HS := Lib.hid hs
  clear hs
  go_enter Tryd.func32, Tryd.ntmps32
  go_wp2_with fail
  go_loopw [3, 4, 5, 6, 7, 8] (fun v i _ _ _ _ wr => ∃ k : Nat, k ≤ 8 ∧ i = .int .i64 k ∧ w.heap.size + 1 ≤ wr.heap.size ∧ wr.ownsRow (w.heap.size + 1) 5 1 v (16 * k) ((textL s k).map (Value.int .u8)) ∧ Hid (wr.heap[w.heap.size]? = some (.cells #[.int .u64 (s 0), .int .u64 (s 1), .int .u64 (s 2), .int .u64 (s 3), .int .u64 (s 4), .int .u64 (s 5), .int .u64 (s 6), .int .u64 (s 7)] 25) ∧ Below w.heap.size w wr)) (fun _ i _ _ _ _ _ => 8 - (intOf i).toNat)
  case atStart => exact ⟨0, by omega, rfl, by simp, World.ownsRow_nil _ _ _ _, heap1_0 _ _, (Below.refl _ _).alloc (Nat.le_refl _) _⟩
  case round =>
    obtain ⟨k, hk, rfl, hsz, hown, HH⟩ := hrel
    obtain ⟨wo, rfl⟩ : ∃ wo : World, wo = wr := ⟨_, rfl⟩
    by_cases hlt : k < 8
    · obtain ⟨y, hy⟩ := Int.eq_ofNat_of_zero_le (HS.out k).1
      have hy2 := (HS.out k).2
      have HY : Hid ((s k).toNat = y) := by show _ = _; omega
      have HY2 : Lt64 y := by unfold Lt64; omega
      have hcell := cell_of_blk HH.out.1 k hlt
      rw [hy] at hcell
      have HO := Lib.hid hown
      have hd8 : decide ((k : Int) < 8) = true := by simp; omega
      clear hy hown hy2
      go_wp2_with fail
      clear hcell
      go_loopw [5, 6, 7] (fun l u i wr => ∃ (n : Nat) (z : Int), n ≤ 16 ∧ i = .int .i64 n ∧ u = .int .u64 z ∧ 0 ≤ z ∧ z < 18446744073709551616 ∧ Hid (z = ((y / 16 ^ n : Nat) : Int)) ∧ wo.heap.size ≤ wr.heap.size ∧ wr.ownsRow wo.heap.size 5 1 l n ((revL y n).map (Value.int .u8)) ∧ Hid (Below wo.heap.size wo wr)) (fun _ _ i _ => 16 - (intOf i).toNat)
      case atStart => exact ⟨0, y, by omega, rfl, rfl, by omega, by unfold Lt64 at HY2; omega, by show _ = _; simp, Nat.le_refl _, World.ownsRow_nil _ _ _ _, Below.refl _ _⟩
      case round =>
        obtain ⟨n, z, hn, rfl, rfl, hz0, hz1, HZ, hsz2, hown, HI⟩ := hrel
        by_cases hn2 : n < 16
        · have hidx : ∀ w, (Instr.index 9 (.string ⟨#[48, 49, 50, 51, 52, 53, 54, 55, 56, 57, 97, 98, 99, 100, 101, 102]⟩) (.int .u64 (z % 16))).run Tryd.prog w = .ok (.int .u8 (hexd (digN y n))) w := by
            have e : z % 16 = ((digN y n : Nat) : Int) := by rw [HZ.out]; unfold digN; omega
            rw [e]
            exact hex_index _ (digN_lt _ _)
          have HR := Lib.hid (revL_succ y n)
          generalize digN y n = d at *
          go_wp2_with (at_builtin; refine wpList_append_own_at _ rfl (.tmp 20) (.tmp 24) 56 rfl wo.heap.size 5 i0 (.int .u8 0) 1 1 Tryd.underlying56 hi hI0 hI1 hI2 rfl (by decide) _ _ _ rfl (hown.alloc _) ⟨wr.heap.size, 0, none⟩ 1 1 [.int .u8 (hexd d)] rfl rfl ?c1 ?c2 ?c3 ?c4 ?c5 ?_)
          case c1 => exact cell_one_new _ _ _
          case c2 => intro u hu; simp at hu; subst hu; rfl
          case c3 => unfold maxLen; omega
          case c4 => omega
          case c5 => simp; omega
          · intro v' w2 hown' hgrow _ _
            have hbel' : Below wo.heap.size wr w2 := ((Below.refl _ _).alloc (by omega) _).grown hgrow (by simp; omega) (fun j hj => (hown.lt j hj).1)
            have HO2 : Hid (w2.ownsRow wo.heap.size 5 1 v' (n + 1) ((revL y (n + 1)).map (Value.int .u8))) := by show World.ownsRow _ _ _ _ _ _ _; rw [HR.out]; simpa using hown'
            have HB2 := Lib.hid hbel'
            have hz4 := hbel'.size
            clear hown' hown hgrow hbel' hidx
            go_wp2_with fail
            go_roundw
            case rel => exact ⟨n + 1, z / 16, by omega, by go_num, rfl, by omega, by omega, by show _ = _; rw [HZ.out, ← div_pow16]; omega, by omega, HO2.out, HI.out.trans HB2.out⟩
            case measure => simp [intOf]; omega
        · have hn16' : 16 ≤ n := by omega
          have HL := Lib.hid hown
          clear hown
          obtain ⟨wm, rfl⟩ : ∃ wm : World, wm = wr := ⟨_, rfl⟩
          obtain ⟨al, cl, rfl⟩ := own_form HL.out
          obtain ⟨g, rfl, hg1, hg2, hcellL, hfrL, _⟩ := own_store HL.out (by omega)
          have HC := Lib.hid hcellL
          have HOm := Lib.hid (own_below HO.out HI.out)
          have HLt := Lib.hid (HO.out.lt)
          clear hcellL hfrL
          go_wp2_with fail
          go_loopw [3, 8] (fun v i wr => ∃ q : Int, -1 ≤ q ∧ q ≤ 15 ∧ i = .int .i64 q ∧ wm.heap.size ≤ wr.heap.size ∧ wr.ownsRow (w.heap.size + 1) 5 1 v (16 * k + (15 - q).toNat) ((textL s k ++ (wordL y).take (15 - q).toNat).map (Value.int .u8)) ∧ Hid ((∀ b, v.ownBlock = some b → b < wo.heap.size ∨ wm.heap.size ≤ b) ∧ wr.heap[g]? = wm.heap[g]? ∧ wr.heap[w.heap.size]? = some (.cells #[.int .u64 (s 0), .int .u64 (s 1), .int .u64 (s 2), .int .u64 (s 3), .int .u64 (s 4), .int .u64 (s 5), .int .u64 (s 6), .int .u64 (s 7)] 25) ∧ Below w.heap.size w wr)) (fun _ i _ => (intOf i + 1).toNat)
          case atStart => exact ⟨15, by omega, by omega, rfl, Nat.le_refl _, by simpa using HOm.out, fun b hb => .inl (HLt.out b hb).2, rfl, (HI.out.block _ (by omega)).trans HH.out.1, HH.out.2.trans (HI.out.mono (by omega))⟩
          case round =>
            obtain ⟨q, hq0, hq1, rfl, hsz3, hown, HJ⟩ := hrel
            by_cases hq : 0 ≤ q
            · obtain ⟨m, rfl⟩ := Int.eq_ofNat_of_zero_le hq
              have hcellm : wr.cell? ⟨g, m, none⟩ = some (.int .u8 (hexd (digN y m))) := by
                rw [World.cell?_of_block (w := wm) (w' := wr) (a := ⟨g, m, none⟩) HJ.out.2.1, HC.out m (by omega), revL_get _ _ _ (by omega)]
              obtain ⟨n2, HN⟩ : ∃ n2 : Nat, Hid ((15 - (m : Int)).toNat = n2) := ⟨_, rfl⟩
              have hn16 : n2 < 16 := by have := HN.out; omega
              have HTk : Hid ((wordL y).take (n2 + 1) = (wordL y).take n2 ++ [hexd (digN y m)]) := by
                have h := wordL_take y n2 hn16
                rw [show 15 - n2 = m by have := HN.out; omega] at h
                exact h
              rw [HN.out] at hown
              generalize hexd (digN y m) = d at *
              go_wp2_with (at_builtin; refine wpList_append_own_at _ rfl (.tmp 32) (.tmp 37) 56 rfl (w.heap.size + 1) 5 i0 (.int .u8 0) 1 1 Tryd.underlying56 hi hI0 hI1 hI2 rfl (by decide) _ _ _ rfl (hown.alloc _) ⟨wr.heap.size, 0, none⟩ 1 1 [.int .u8 d] rfl rfl ?e1 ?e2 ?e3 ?e4 ?e5 ?_)
              case e1 => exact cell_one_new _ _ _
              case e2 => intro u hu; simp at hu; subst hu; rfl
              case e3 => unfold maxLen; omega
              case e4 => omega
              case e5 => simp; omega
              · intro v' w2 hown' hgrow _ hown2
                have hbel' : Below (w.heap.size + 1) wr w2 := ((Below.refl _ _).alloc (by omega) _).grown hgrow (by simp; omega) (fun j hj => (hown.lt j hj).1)
                have HO2 : Hid (w2.ownsRow (w.heap.size + 1) 5 1 v' (16 * k + (15 - ((m : Int) - 1)).toNat) ((textL s k ++ (wordL y).take (15 - ((m : Int) - 1)).toNat).map (Value.int .u8))) := by
                  have e : (15 - ((m : Int) - 1)).toNat = n2 + 1 := by have := HN.out; omega
                  show World.ownsRow _ _ _ _ _ _ _
                  rw [e, HTk.out]; simpa [Nat.add_assoc] using hown'
                have HJ2 : Hid ((∀ b, v'.ownBlock = some b → b < wo.heap.size ∨ wm.heap.size ≤ b) ∧ w2.heap[g]? = wm.heap[g]?) := by
                  refine ⟨fun b hb => ?_, (hgrow.block g (by simp; omega) (fun e => ?_)).trans ((Below.heap_alloc _ _ _ (by omega)).trans HJ.out.2.1)⟩
                  · rcases hown2 with h | h
                    · exact HJ.out.1 b (h.symm.trans hb)
                    · right
                      rw [hb] at h
                      simp at h
                      omega
                  · have := HJ.out.1 g e.symm; omega
                have HB2 := Lib.hid hbel'
                have hz4 := hbel'.size
                clear hown' hown hgrow hbel' hown2 hcellm
                go_wp2_with fail
                go_roundw
                case rel => exact ⟨(m : Int) - 1, by omega, by omega, rfl, by omega, HO2.out, HJ2.out.1, HJ2.out.2, (HB2.out.block _ (by omega)).trans HJ.out.2.2.1, HJ.out.2.2.2.trans (HB2.out.mono (by omega))⟩
                case measure => simp [intOf]
            · obtain rfl : q = -1 := by omega
              have HO2 := Lib.hid hown
              clear hown
              go_wp2_with fail
              go_roundw
              case rel =>
                have h := HO2.out
                rw [show (15 - (-1 : Int)).toNat = 16 from rfl, wordL_full, ← HY.out, ← textL_succ, show 16 * k + 16 = 16 * (k + 1) by omega] at h
                exact ⟨k + 1, by omega, by go_num, by omega, h, HJ.out.2.2⟩
              case measure => simp [intOf]; omega
    · obtain rfl : k = 8 := by omega
      obtain ⟨g, cap, rfl, hconv⟩ := conv_own hown (by omega)
      go_wp2
      go_ret
      exact ⟨rfl, HH.out.2⟩
end Go.Proofs.YtcnkoiogfhggeaaDoor
