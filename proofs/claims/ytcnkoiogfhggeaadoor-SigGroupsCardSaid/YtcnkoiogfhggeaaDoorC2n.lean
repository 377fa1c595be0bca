/- Contracts of layer 2: Text. -/
import Derived.Test.YtcnkoiogfhggeaaDoorC2m
import Derived.Test.YtcnkoiogfhggeaaDoorS2d
import Derived.Laws.BytesArg
namespace Go.Proofs.YtcnkoiogfhggeaaDoor
open Go.RowKit
set_option linter.unusedVariables false
theorem infoU8 : (Tryd.prog.info? 5).map (fun i => (i.zero, i.size, i.bytes)) = some (some (.int .u8 0), 1, 1) := by kernel_rfl
theorem hex_0 (w : World) : (Instr.index 9 (.string ⟨#[48, 49, 50, 51, 52, 53, 54, 55, 56, 57, 97, 98, 99, 100, 101, 102]⟩) (.int .u64 0)).run Tryd.prog w = .ok (.int .u8 (hexd 0)) w := by kernel_rfl
theorem hex_1 (w : World) : (Instr.index 9 (.string ⟨#[48, 49, 50, 51, 52, 53, 54, 55, 56, 57, 97, 98, 99, 100, 101, 102]⟩) (.int .u64 1)).run Tryd.prog w = .ok (.int .u8 (hexd 1)) w := by kernel_rfl
theorem hex_2 (w : World) : (Instr.index 9 (.string ⟨#[48, 49, 50, 51, 52, 53, 54, 55, 56, 57, 97, 98, 99, 100, 101, 102]⟩) (.int .u64 2)).run Tryd.prog w = .ok (.int .u8 (hexd 2)) w := by kernel_rfl
theorem hex_3 (w : World) : (Instr.index 9 (.string ⟨#[48, 49, 50, 51, 52, 53, 54, 55, 56, 57, 97, 98, 99, 100, 101, 102]⟩) (.int .u64 3)).run Tryd.prog w = .ok (.int .u8 (hexd 3)) w := by kernel_rfl
theorem hex_4 (w : World) : (Instr.index 9 (.string ⟨#[48, 49, 50, 51, 52, 53, 54, 55, 56, 57, 97, 98, 99, 100, 101, 102]⟩) (.int .u64 4)).run Tryd.prog w = .ok (.int .u8 (hexd 4)) w := by kernel_rfl
theorem hex_5 (w : World) : (Instr.index 9 (.string ⟨#[48, 49, 50, 51, 52, 53, 54, 55, 56, 57, 97, 98, 99, 100, 101, 102]⟩) (.int .u64 5)).run Tryd.prog w = .ok (.int .u8 (hexd 5)) w := by kernel_rfl
theorem hex_6 (w : World) : (Instr.index 9 (.string ⟨#[48, 49, 50, 51, 52, 53, 54, 55, 56, 57, 97, 98, 99, 100, 101, 102]⟩) (.int .u64 6)).run Tryd.prog w = .ok (.int .u8 (hexd 6)) w := by kernel_rfl
theorem hex_7 (w : World) : (Instr.index 9 (.string ⟨#[48, 49, 50, 51, 52, 53, 54, 55, 56, 57, 97, 98, 99, 100, 101, 102]⟩) (.int .u64 7)).run Tryd.prog w = .ok (.int .u8 (hexd 7)) w := by kernel_rfl
theorem hex_8 (w : World) : (Instr.index 9 (.string ⟨#[48, 49, 50, 51, 52, 53, 54, 55, 56, 57, 97, 98, 99, 100, 101, 102]⟩) (.int .u64 8)).run Tryd.prog w = .ok (.int .u8 (hexd 8)) w := by kernel_rfl
theorem hex_9 (w : World) : (Instr.index 9 (.string ⟨#[48, 49, 50, 51, 52, 53, 54, 55, 56, 57, 97, 98, 99, 100, 101, 102]⟩) (.int .u64 9)).run Tryd.prog w = .ok (.int .u8 (hexd 9)) w := by kernel_rfl
theorem hex_10 (w : World) : (Instr.index 9 (.string ⟨#[48, 49, 50, 51, 52, 53, 54, 55, 56, 57, 97, 98, 99, 100, 101, 102]⟩) (.int .u64 10)).run Tryd.prog w = .ok (.int .u8 (hexd 10)) w := by kernel_rfl
theorem hex_11 (w : World) : (Instr.index 9 (.string ⟨#[48, 49, 50, 51, 52, 53, 54, 55, 56, 57, 97, 98, 99, 100, 101, 102]⟩) (.int .u64 11)).run Tryd.prog w = .ok (.int .u8 (hexd 11)) w := by kernel_rfl
theorem hex_12 (w : World) : (Instr.index 9 (.string ⟨#[48, 49, 50, 51, 52, 53, 54, 55, 56, 57, 97, 98, 99, 100, 101, 102]⟩) (.int .u64 12)).run Tryd.prog w = .ok (.int .u8 (hexd 12)) w := by kernel_rfl
theorem hex_13 (w : World) : (Instr.index 9 (.string ⟨#[48, 49, 50, 51, 52, 53, 54, 55, 56, 57, 97, 98, 99, 100, 101, 102]⟩) (.int .u64 13)).run Tryd.prog w = .ok (.int .u8 (hexd 13)) w := by kernel_rfl
theorem hex_14 (w : World) : (Instr.index 9 (.string ⟨#[48, 49, 50, 51, 52, 53, 54, 55, 56, 57, 97, 98, 99, 100, 101, 102]⟩) (.int .u64 14)).run Tryd.prog w = .ok (.int .u8 (hexd 14)) w := by kernel_rfl
theorem hex_15 (w : World) : (Instr.index 9 (.string ⟨#[48, 49, 50, 51, 52, 53, 54, 55, 56, 57, 97, 98, 99, 100, 101, 102]⟩) (.int .u64 15)).run Tryd.prog w = .ok (.int .u8 (hexd 15)) w := by kernel_rfl
theorem hex_index (d : Nat) (hd : d < 16) (w : World) : (Instr.index 9 (.string ⟨#[48, 49, 50, 51, 52, 53, 54, 55, 56, 57, 97, 98, 99, 100, 101, 102]⟩) (.int .u64 d)).run Tryd.prog w = .ok (.int .u8 (hexd d)) w := by
  rcases (show d = 0 ∨ d = 1 ∨ d = 2 ∨ d = 3 ∨ d = 4 ∨ d = 5 ∨ d = 6 ∨ d = 7 ∨ d = 8 ∨ d = 9 ∨ d = 10 ∨ d = 11 ∨ d = 12 ∨ d = 13 ∨ d = 14 ∨ d = 15 by omega) with rfl | rfl | rfl | rfl | rfl | rfl | rfl | rfl | rfl | rfl | rfl | rfl | rfl | rfl | rfl | rfl
  · exact hex_0 w
  · exact hex_1 w
  · exact hex_2 w
  · exact hex_3 w
  · exact hex_4 w
  · exact hex_5 w
  · exact hex_6 w
  · exact hex_7 w
  · exact hex_8 w
  · exact hex_9 w
  · exact hex_10 w
  · exact hex_11 w
  · exact hex_12 w
  · exact hex_13 w
  · exact hex_14 w
  · exact hex_15 w
theorem conv_own {w : World} {B : Nat} {v : Value} {n : Nat} {xs : List Int} (h : w.ownsRow B 5 1 v n (xs.map (Value.int .u8))) (hn : 0 < n) :
    ∃ g cap, v = .slice (some ⟨g, 0, none⟩) n cap ∧ (convert 56 9 (.slice (some ⟨g, 0, none⟩) n cap)).run Tryd.prog w = .ok (.string (strOfNums xs)) w := by
  obtain ⟨hl, h2⟩ := h
  rcases h2 with ⟨_, h0⟩ | ⟨g, cap, cur, hv, hB, hg, hnc, hcm, hcs, htake⟩
  · omega
  · refine ⟨g, cap, hv, run_convert_bytes_arg w 56 5 Tryd.underlying56 Tryd.underlying5 g 0 n cap xs (by simpa using hl) ?_ 9 Tryd.underlying9⟩
    intro i hi
    have hlen : xs.length = n := by simpa using hl
    have hi' : i < (xs.map (Value.int .u8)).length := by simpa [hlen] using hi
    have e := cell_of_row w g (0 + i) cur 5 (0, 0) hg
    rw [e]
    have : (cur.toList.take (n * 1))[i]? = some ((xs.map (Value.int .u8))[i]) := by rw [htake]; exact List.getElem?_eq_getElem hi'
    rw [List.getElem?_take, if_pos (by omega)] at this
    simp only [Nat.zero_add]
    have h3 : cur[i]? = some (Value.int .u8 (xs[i]'(by omega))) := by simpa using this
    rw [h3]
    simp [List.getD, List.getElem?_eq_getElem (show i < xs.length by omega)]
set_option maxRecDepth 100000 in
set_option maxHeartbeats 2000000 in
theorem text_any (s : Nat → Int) (hs : Wds s) (w : World) : Calls Tryd.prog 31 #[(.agg #[.int .u64 (s 0), .int .u64 (s 1), .int .u64 (s 2), .int .u64 (s 3), .int .u64 (s 4), .int .u64 (s 5), .int .u64 (s 6), .int .u64 (s 7)])] w fun e w' => e = .returned (.string (strOfNums (textL s 8))) ∧ Below w.heap.size w w' := by
  obtain ⟨i0, hi, hz0, hz1, hz2⟩ := info_parts infoU8
  have HS := Lib.hid hs
  clear hs
  go_enter Tryd.func31, Tryd.ntmps31
  go_wp2_with fail
  go_loopw [3, 5, 6, 8] (fun v _ _ i wr => ∃ k : Nat, k ≤ 8 ∧ i = .int .i64 k ∧ w.heap.size + 1 ≤ wr.heap.size ∧ wr.ownsRow (w.heap.size + 1) 5 1 v (16 * k) ((textL s k).map (Value.int .u8)) ∧ Hid (Below w.heap.size w wr)) (fun _ _ _ i _ => 8 - (intOf i).toNat)
  case atStart => exact ⟨0, by omega, rfl, by simp, World.ownsRow_nil _ _ _ _, (Below.refl _ _).alloc (Nat.le_refl _) _⟩
  case round =>
    obtain ⟨k, hk, rfl, hsz, hown, HH⟩ := hrel
    obtain ⟨wo, rfl⟩ : ∃ wo : World, wo = wr := ⟨_, rfl⟩
    by_cases hlt : k < 8
    · obtain ⟨y, hy⟩ := Int.eq_ofNat_of_zero_le (HS.out k).1
      have hy2 := (HS.out k).2
      have HY : Hid ((s k).toNat = y) := by show _ = _; omega
      have HY2 : Lt64 y := by unfold Lt64; omega
      have hix := idx_any s k hlt
      have hd8 : decide ((k : Int) < 8) = true := by simp; omega
      rw [hy] at hix
      have HO := Lib.hid hown
      clear hy hown hy2
      go_wp2_with fail
      clear hix
      go_loopw [3, 6] (fun v u wr => ∃ (n : Nat) (q : Int), n ≤ 16 ∧ u = .int .i64 q ∧ -4 ≤ q ∧ q ≤ 60 ∧ Hid (q = 60 - 4 * n) ∧ w.heap.size + 1 ≤ wr.heap.size ∧ wr.ownsRow (w.heap.size + 1) 5 1 v (16 * k + n) ((textL s k ++ (wordL y).take n).map (Value.int .u8)) ∧ Hid (Below w.heap.size w wr)) (fun _ u _ => (intOf u + 4).toNat)
      case atStart => exact ⟨0, 60, by omega, rfl, by omega, by omega, by show _ = _; rfl, hsz, by simpa using HO.out, HH.out⟩
      case round =>
        obtain ⟨n, q, hn, rfl, hq0, hq1, HQ, hsz2, hown, HI⟩ := hrel
        by_cases hq : 0 ≤ q
        · have hn2 : n < 16 := by have := HQ.out; omega
          have hand := text_digit y n HY2 q hn2 HQ.out
          have hidx := hex_index (digN y (15 - n)) (digN_lt _ _)
          have HTk := Lib.hid (wordL_take y n hn2)
          generalize digN y (15 - n) = d at *
          go_wp2_with (at_builtin; refine wpList_append_own _ rfl (.tmp 15) (.tmp 21) 56 rfl (w.heap.size + 1) 5 i0 (.int .u8 0) 1 1 Tryd.underlying56 hi hz0 hz1 hz2 rfl (by decide) _ _ _ rfl (hown.alloc _) ⟨wr.heap.size, 0, none⟩ 1 1 [.int .u8 (hexd d)] rfl rfl ?c1 ?c2 ?c3 ?c4 ?c5 ?_)
          case c1 => exact cell_one_new _ _ _
          case c2 => intro u hu; simp at hu; subst hu; rfl
          case c3 => unfold maxLen; omega
          case c4 => omega
          case c5 => simp; omega
          · intro v' w2 hown' hgrow _
            have hbel' : Below (w.heap.size + 1) wr w2 := ((Below.refl _ _).alloc (by omega) _).grown hgrow (by simp; omega) (fun j hj => (hown.lt j hj).1)
            have HO2 : Hid (w2.ownsRow (w.heap.size + 1) 5 1 v' (16 * k + (n + 1)) ((textL s k ++ (wordL y).take (n + 1)).map (Value.int .u8))) := by show World.ownsRow _ _ _ _ _ _ _; rw [HTk.out]; simpa [Nat.add_assoc] using hown'
            have HB2 := Lib.hid hbel'
            have hz4 := hbel'.size
            clear hown' hown hgrow hbel' hand hidx
            go_wp2_with fail
            go_roundw
            case rel => exact ⟨n + 1, q - 4, by omega, rfl, by have := HQ.out; omega, by omega, by have := HQ.out; show _ = _; omega, by omega, HO2.out, HI.out.trans (HB2.out.mono (by omega))⟩
            case measure => simp [intOf]; omega
        · have HN : Hid (n = 16) := by have := HQ.out; show _ = _; omega
          have HO2 := Lib.hid hown
          clear hown
          go_wp2_with fail
          go_roundw
          case rel =>
            have h := HO2.out
            rw [HN.out, wordL_full, ← HY.out, ← textL_succ, show 16 * k + 16 = 16 * (k + 1) by omega] at h
            exact ⟨k + 1, by omega, by go_num, hsz2, h, HI.out⟩
          case measure => simp [intOf]; omega
    · obtain rfl : k = 8 := by omega
      obtain ⟨g, cap, rfl, hconv⟩ := conv_own hown (by omega)
      go_wp2
      go_ret
      exact ⟨rfl, HH.out⟩
end Go.Proofs.YtcnkoiogfhggeaaDoor
