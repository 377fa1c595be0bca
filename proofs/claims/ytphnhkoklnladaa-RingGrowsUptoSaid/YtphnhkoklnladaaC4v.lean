/- Layer 4: the reference's Newest, Head, First, Complete. -/
import Derived.Test.YtphnhkoklnladaaS4r
import Derived.Test.YtphnhkoklnladaaC3e
namespace Go.Proofs.Ytphnhkoklnladaa
open Go.RowKit
set_option linter.unusedVariables false
theorem refNewest_any (r ring cells : Nat) (l : List Acc) (hlen : l.length ≤ 100000000000) : Looks Try.prog 27 #[.pointer (some ⟨r, 0, none⟩)] (RMemH r ring cells l) (.returned (.int .i64 (wordOf l 1 0 0))) := by
  rintro w F hO
  have HP := Lib.hid (rword_any r ring cells l hlen 1 0 0 w F hO)
  clear hO
  go_enter Try.func27, Try.ntmps27
  go_wp2_with fail
  refine HP.out.mono ?_; rintro e w1 ⟨rfl, hb⟩
  have HB := Lib.hid hb
  clear hb HP
  go_wp2_with fail
  go_ret
  exact ⟨rfl, HB.out⟩
theorem rm_cells {w : World} {F : Nat → Prop} {r ring cells : Nat} {l : List Acc} (h : RMemH r ring cells l w F) : w.cell? ⟨r, 1, none⟩ = some (.int .i64 ring) ∧ (∀ o, w.frozen? ⟨r, o, none⟩ = false) ∧ r < w.heap.size := by
  obtain ⟨lv, g1, g2, _⟩ := h
  obtain ⟨_, q1, _, qz⟩ := three_cells g1
  exact ⟨q1, qz, (Array.getElem?_eq_some_iff.1 g1).1⟩
theorem refHead_word (r ring cells : Nat) (l : List Acc) (hlen : l.length ≤ 100000000000) (s : Int) : Looks Try.prog 37 #[.pointer (some ⟨r, 0, none⟩), .int .i64 s] (RMemH r ring cells l) (.returned (.int .i64 (wordOf l 2 (slotZ s ring) 0))) := by
  rintro w F hO
  have HP := Lib.hid (fun k => rword_any r ring cells l hlen 2 k 0 w F hO)
  have HS := Lib.hid (fun w => refSlot_any s ring w)
  obtain ⟨q1, qz, _⟩ := rm_cells hO
  clear hO
  go_enter Try.func37, Try.ntmps37
  go_wp2_with fail
  refine (HS.out _).mono ?_; rintro e w' ⟨rfl, rfl⟩
  go_wp2_with fail
  refine (HP.out _).mono ?_; rintro e w1 ⟨rfl, hb⟩
  have HB := Lib.hid hb
  clear hb HP
  go_wp2_with fail
  go_ret
  exact ⟨rfl, HB.out⟩
theorem refFirst_any (r ring cells : Nat) (h1 : 1 ≤ ring) (h2 : ring ≤ 16) (l : List Acc) (hlen : l.length ≤ 100000000000) (n : Int) (hn : wordOf l 1 0 0 = n) (hI : I64 n) (hn1 : 1 ≤ n) : Looks Try.prog 36 #[.pointer (some ⟨r, 0, none⟩)] (RMemH r ring cells l) (.returned (.int .i64 (n - manyR n ring))) := by
  rintro w F hO
  have HP := Lib.hid (refNewest_any r ring cells l hlen w F hO)
  rw [hn] at HP
  have HC := Lib.hid (fun w1 (hb : Below w.heap.size w w1) => rm_cells ((RMemH.good _ _ _ _).calm hO hb))
  obtain ⟨hI1, hI2⟩ := hI
  have HM : Hid ((manyR n ring : Int) = min n ring) := by show _ = _; unfold manyR; omega
  clear hO hn
  by_cases hle : n ≤ ring
  · have HE : Hid (n - (manyR n ring : Int) = 0) := by
      show _ = _
      have := HM.out; omega
    go_enter Try.func36, Try.ntmps36
    go_wp2_with fail
    refine HP.out.mono ?_; rintro e w1 ⟨rfl, hb⟩
    have HB := Lib.hid hb
    obtain ⟨q1, qz, _⟩ := HC.out _ hb
    clear hb HP HC
    go_wp2_with fail
    go_ret
    rw [HE.out]
    exact ⟨rfl, HB.out⟩
  · have HE : Hid (n - (manyR n ring : Int) = n - ring) := by
      show _ = _
      have := HM.out; omega
    go_enter Try.func36, Try.ntmps36
    go_wp2_with fail
    refine HP.out.mono ?_; rintro e w1 ⟨rfl, hb⟩
    have HB := Lib.hid hb
    obtain ⟨q1, qz, _⟩ := HC.out _ hb
    clear hb HP HC
    go_wp2_with fail
    go_ret
    rw [HE.out]
    exact ⟨rfl, HB.out⟩
theorem stampsL_drop {n : Int} {size j : Nat} (h : j < manyR n size) : (stampsL n size).drop j = (n - manyR n size + 1 + j) :: (stampsL n size).drop (j + 1) := by
  have hx : (stampsL n size)[j]? = some (n - manyR n size + 1 + j) := by simp [stampsL, h]
  obtain ⟨h1, h2⟩ := List.getElem?_eq_some_iff.1 hx
  rw [List.drop_eq_getElem_cons h1, h2]
theorem refComplete_any (r ring cells : Nat) (h1 : 1 ≤ ring) (h2 : ring ≤ 16) (l : List Acc) (hlen : l.length ≤ 100000000000) (hok : OkW l) : Looks Try.prog 28 #[.pointer (some ⟨r, 0, none⟩)] (RMemH r ring cells l) (.returned (.int .i64 (complZ l ring))) := by
  rintro w F hO
  obtain ⟨n, hn⟩ : ∃ n, wordOf l 1 0 0 = n := ⟨_, rfl⟩
  have hI : I64 n := by rw [← hn]; exact hok _ _ _
  have HN := Lib.hid (refNewest_any r ring cells l hlen w F hO)
  rw [hn] at HN
  have HF := Lib.hid (fun w1 (hn1 : 1 ≤ n) (hb : Below w.heap.size w w1) => refFirst_any r ring cells h1 h2 l hlen n hn hI hn1 w1 F ((RMemH.good _ _ _ _).calm hO hb))
  have HH := Lib.hid (fun w1 s (hb : Below w.heap.size w w1) => refHead_word r ring cells l hlen s w1 F ((RMemH.good _ _ _ _).calm hO hb))
  have HV := Lib.hid (fun s w => refOver_any (wordOf l 2 (slotZ s ring) 0) s (hok _ _ _) w)
  obtain ⟨hI1, hI2⟩ := hI
  unfold complZ
  rw [hn]
  clear hO hn
  by_cases hlt : n < 1
  · rw [if_pos hlt]
    go_enter Try.func28, Try.ntmps28
    go_wp2_with fail
    refine HN.out.mono ?_; rintro e w1 ⟨rfl, hb⟩
    have HB := Lib.hid hb
    clear hb HN
    go_wp2_with fail
    go_ret
    exact ⟨rfl, HB.out⟩
  · rw [if_neg hlt]
    have hn1 : 1 ≤ n := by omega
    have hm1 : (manyR n ring : Int) ≤ n := by unfold manyR; omega
    have hm2 : (manyR n ring : Int) ≤ 16 := by unfold manyR; omega
    have HD := Lib.hid (fun j h => stampsL_drop (n := n) (size := ring) (j := j) h)
    have HZ : Hid (∀ j, manyR n ring ≤ j → (stampsL n ring).drop j = []) := fun j h => List.drop_of_length_le (by rw [stampsL_len]; exact h)
    have HC0 : Hid (complF (ovR l ring) (n - manyR n ring) (stampsL n ring) = complF (ovR l ring) (n - manyR n ring + ((0 : Nat) : Int)) ((stampsL n ring).drop 0)) := by show _ = _; simp
    generalize manyR n ring = m at *
    go_enter Try.func28, Try.ntmps28
    go_wp2_with fail
    refine HN.out.mono ?_; rintro e w1 ⟨rfl, hb⟩
    have HB := Lib.hid hb
    clear hb HN
    go_wp2_with fail
    refine (HF.out _ hn1 HB.out).mono ?_; rintro e w2 ⟨rfl, hb⟩
    have HB2 := Lib.hid (HB.out.trans (hb.mono HB.out.size))
    clear hb HF HB
    go_wp2_with fail
    go_loopw [4] (fun cv wr => ∃ (j : Nat) (c : Int), c = n - m + j ∧ j ≤ m ∧ cv = .int .i64 c ∧ Hid (complF (ovR l ring) (n - m) (stampsL n ring) = complF (ovR l ring) c ((stampsL n ring).drop j)) ∧ Hid (Below w.heap.size w wr)) (fun cv _ => (n - intOf cv).toNat)
    case atStart => exact ⟨0, n - m, by omega, by omega, rfl, by have h := HC0.out; rwa [show n - (m : Int) + ((0 : Nat) : Int) = n - m by omega] at h, HB2.out⟩
    case round =>
      obtain ⟨j, c, hc, hj, rfl, HE, HBr⟩ := hrel
      by_cases hjm : j < m
      · have hcn : c < n := by omega
        have hc0 : 0 ≤ c := by omega
        have HX : Hid (n - (m : Int) + 1 + j = c + 1) := by show _ = _; omega
        have HDJ := Lib.hid (HD.out j hjm)
        rw [HX.out] at HDJ
        have HCC := Lib.hid hc
        clear hc
        go_wp2_with fail
        refine (HH.out _ (c + 1) HBr.out).mono ?_; rintro e w3 ⟨rfl, hb⟩
        have HB3 := Lib.hid (HBr.out.trans (hb.mono HBr.out.size))
        clear hb
        go_wp2_with fail
        refine (HV.out (c + 1) w3).mono ?_; rintro e w' ⟨rfl, rfl⟩
        have HOX : Hid (ovR l ring (c + 1) = overB (wordOf l 2 (slotZ (c + 1) ring) 0) (c + 1)) := rfl
        generalize overB (wordOf l 2 (slotZ (c + 1) ring) 0) (c + 1) = ov at *
        cases ov
        · have HR : Hid (complF (ovR l ring) (n - m) (stampsL n ring) = c) := by
            show _ = _
            rw [HE.out, HDJ.out]
            show (if ovR l ring (c + 1) then _ else c) = c
            rw [if_neg (by rw [HOX.out]; decide)]
          go_wp2_with fail
          go_ret
          rw [HR.out]
          exact ⟨rfl, HB3.out⟩
        · have HR : Hid (complF (ovR l ring) (n - m) (stampsL n ring) = complF (ovR l ring) (c + 1) ((stampsL n ring).drop (j + 1))) := by
            show _ = _
            rw [HE.out, HDJ.out]
            show (if ovR l ring (c + 1) then complF (ovR l ring) (c + 1) ((stampsL n ring).drop (j + 1)) else c) = _
            rw [if_pos HOX.out]
          go_wp2_with fail
          go_roundw
          case rel => exact ⟨j + 1, _, by have := HCC.out; omega, by omega, rfl, HR.out, HB3.out⟩
          case measure => simp [intOf]; omega
      · obtain rfl : j = m := by omega
        have hcn : ¬ c < n := by omega
        have HR : Hid (complF (ovR l ring) (n - j) (stampsL n ring) = c) := by
          show _ = _
          rw [HE.out, HZ.out j (Nat.le_refl _)]
          rfl
        clear hc
        go_wp2_with fail
        go_ret
        rw [HR.out]
        exact ⟨rfl, HBr.out⟩
end Go.Proofs.Ytphnhkoklnladaa
