/- The walks of the laws of layer 1 (shift), and of layer 4's laws on numbers alone. -/
import Derived.Test.YtojnlkbfhodaaaaC1e
import Derived.Test.YtojnlkbfhodaaaaC1f
namespace Go.Proofs.Ytojnlkbfhodaaaa
open Go.RowKit
set_option linter.unusedVariables false
theorem shown1_any (w : World) : Calls Try.prog 22 #[] w fun e w' => e = .returned (.bool true) ∧ Below w.heap.size w w' := by
  have hm : (mixZ 1 == 12994781566227106604) = true := by decide +kernel
  have hl : strOfNums (layL 258 (2 : Int).toNat) = ⟨#[2, 1]⟩ := by decide +kernel
  go_enter Try.func22, Try.ntmps22
  go_wp2_with (first | (go_at_call 23; refine (mix_any _ (by omega) (by omega) _).mono ?_; rintro e w' ⟨rfl, rfl⟩) | (go_at_call 41; refine (lay_any 258 2 (by omega) _).mono ?_; rw [hl]; rintro e w1 ⟨rfl, hb⟩) | go_in)
  go_ret
  exact ⟨by simp, hb⟩
theorem shiftApart_law (x : Int) (wx : (Lit.int .u64 x).wf = true) (y : Int) (wy : (Lit.int .u64 y).wf = true) (w : World) :
    Calls Try.prog 5 #[.int .u64 x, .int .u64 y] w fun e w' => e = .returned (.bool true) ∧ Below w.heap.size w w' := by
  have hx := U64.of_wf wx
  have hy := U64.of_wf wy
  clear wx wy
  have HX := Lib.hid hx
  have HY := Lib.hid hy
  clear hx hy
  go_enter Try.func5, Try.ntmps5
  go_wp2_with fail
  refine (shown1_any _).mono ?_; rintro e w1 ⟨rfl, hb⟩
  go_wp2_with fail
  refine (mix_any x HX.out.1 HX.out.2 _).mono ?_; rintro e w' ⟨rfl, rfl⟩
  go_wp2_with fail
  refine (mix_any y HY.out.1 HY.out.2 _).mono ?_; rintro e w' ⟨rfl, rfl⟩
  go_wp2_with fail
  go_ret
  refine ⟨ret_bool ?_, hb⟩
  rw [Bool.eq_iff_iff]
  simp only [beq_iff_eq, iff_true]
  rw [Bool.eq_iff_iff]
  simp only [beq_iff_eq]
  exact ⟨fun h => mixZ_inj HX.out.1 HX.out.2 HY.out.1 HY.out.2 h, fun h => by rw [h]⟩
theorem shiftMixes_law (x : Int) (wx : (Lit.int .u64 x).wf = true) (c : Int) (wc : (Lit.int .i64 c).wf = true) (w : World) :
    Calls Try.prog 6 #[.int .u64 x, .int .i64 c] w fun e w' => e = .returned (.bool true) ∧ Below w.heap.size w w' := by
  have HX := Lib.hid (U64.of_wf wx)
  clear wx wc
  have hr := sigHashZ_range c
  go_enter Try.func6, Try.ntmps6
  go_wp2_with fail
  refine (shown1_any _).mono ?_; rintro e w1 ⟨rfl, hb⟩
  go_wp2_with fail
  refine (mix_any x HX.out.1 HX.out.2 _).mono ?_; rintro e w' ⟨rfl, rfl⟩
  go_wp2_with fail
  refine (refMix_any x HX.out.1 HX.out.2 _).mono ?_; rintro e w' ⟨rfl, rfl⟩
  go_wp2_with fail
  refine (sigHash_any c _).mono ?_; rintro e w' ⟨rfl, rfl⟩
  go_wp2_with fail
  refine (refSigHash_any c _).mono ?_; rintro e w' ⟨rfl, rfl⟩
  go_wp2_with fail
  go_ret
  exact ⟨ret_bool (by simp), hb⟩
theorem shiftHeads_law (s : Int) (ws : (Lit.int .i64 s).wf = true) (d : Bool) (h : Int) (wh : (Lit.int .i64 h).wf = true) (w : World) :
    Calls Try.prog 7 #[.int .i64 s, .bool d, .int .i64 h] w fun e w' => e = .returned (.bool true) ∧ Below w.heap.size w w' := by
  have HH := Lib.hid (I64.of_wf wh)
  clear ws wh
  go_enter Try.func7, Try.ntmps7
  go_wp2_with fail
  refine (shown1_any _).mono ?_; rintro e w1 ⟨rfl, hb⟩
  go_wp2_with fail
  refine (head_any s d _).mono ?_; rintro e w' ⟨rfl, rfl⟩
  go_wp2_with fail
  refine (refHead_any s d _).mono ?_; rintro e w' ⟨rfl, rfl⟩
  go_wp2_with fail
  refine (stamp_any h _).mono ?_; rintro e w' ⟨rfl, rfl⟩
  go_wp2_with fail
  refine (refStamp_any h HH.out _).mono ?_; rintro e w' ⟨rfl, rfl⟩
  go_wp2_with fail
  refine (done_any h _).mono ?_; rintro e w' ⟨rfl, rfl⟩
  go_wp2_with fail
  refine (refDone_any h _).mono ?_; rintro e w' ⟨rfl, rfl⟩
  go_wp2_with fail
  go_ret
  exact ⟨ret_bool (by simp), hb⟩
theorem shiftShifts_law (x : Int) (wx : (Lit.int .i64 x).wf = true) (n : Int) (wn : (Lit.int .i64 n).wf = true) (w : World) :
    Calls Try.prog 8 #[.int .i64 x, .int .i64 n] w fun e w' => e = .returned (.bool true) ∧ Below w.heap.size w w' := by
  have HX := Lib.hid (I64.of_wf wx)
  clear wx wn
  go_enter Try.func8, Try.ntmps8
  go_wp2_with fail
  refine (shown1_any _).mono ?_; rintro e w1 ⟨rfl, hb⟩
  go_wp2_with fail
  refine (shl_any x n _).mono ?_; rintro e w' ⟨rfl, rfl⟩
  go_wp2_with fail
  refine (refShl_any x n HX.out _).mono ?_; rintro e w' ⟨rfl, rfl⟩
  go_wp2_with fail
  refine (shr_any x n _).mono ?_; rintro e w' ⟨rfl, rfl⟩
  go_wp2_with fail
  refine (refShr_any x n HX.out _).mono ?_; rintro e w' ⟨rfl, rfl⟩
  go_wp2_with fail
  refine (ushr_any x n _).mono ?_; rintro e w' ⟨rfl, rfl⟩
  go_wp2_with fail
  refine (refUshr_any x n _).mono ?_; rintro e w' ⟨rfl, rfl⟩
  go_wp2_with fail
  go_ret
  exact ⟨ret_bool (by simp), hb⟩
theorem shiftTurns_law (x : Int) (wx : (Lit.int .u64 x).wf = true) (n : Int) (wn : (Lit.int .i64 n).wf = true) (w : World) :
    Calls Try.prog 9 #[.int .u64 x, .int .i64 n] w fun e w' => e = .returned (.bool true) ∧ Below w.heap.size w w' := by
  have HX := Lib.hid (U64.of_wf wx)
  clear wx wn
  go_enter Try.func9, Try.ntmps9
  go_wp2_with fail
  refine (shown1_any _).mono ?_; rintro e w1 ⟨rfl, hb⟩
  go_wp2_with fail
  refine (turn_any x n HX.out.1 HX.out.2 _).mono ?_; rintro e w' ⟨rfl, rfl⟩
  go_wp2_with fail
  refine (refTurn_any x n HX.out.1 HX.out.2 _).mono ?_; rintro e w' ⟨rfl, rfl⟩
  go_wp2_with fail
  go_ret
  exact ⟨ret_bool (by simp), hb⟩
theorem shiftNarrows_law (x : Int) (wx : (Lit.int .i64 x).wf = true) (k : Int) (wk : (Lit.int .i64 k).wf = true) (w : World) :
    Calls Try.prog 12 #[.int .i64 x, .int .i64 k] w fun e w' => e = .returned (.bool true) ∧ Below w.heap.size w w' := by
  have HX := Lib.hid (I64.of_wf wx)
  clear wx wk
  have hk : narrowE k = 0 ∨ narrowE k = 1 := by unfold narrowE; split <;> simp
  have hk0 : 0 ≤ narrowE k := by omega
  have hk1 : narrowE k ≤ 1 := by omega
  clear hk
  go_enter Try.func12, Try.ntmps12
  go_wp2_with fail
  refine (shown1_any _).mono ?_; rintro e w1 ⟨rfl, hb⟩
  go_wp2_with fail
  refine (narrow_any x k HX.out _).mono ?_; rintro e w' ⟨rfl, rfl⟩
  go_wp2_with fail
  refine (refNarrow_any x k _).mono ?_; rintro e w' ⟨rfl, rfl⟩
  go_wp2_with fail
  go_ret
  exact ⟨ret_bool (by simp), hb⟩
theorem shiftBytes_law (x : Int) (wx : (Lit.int .i64 x).wf = true) (n : Int) (wn : (Lit.int .i64 n).wf = true) (s : ByteArray) (hs : s.size ≤ maxLen) (w : World) :
    Calls Try.prog 10 #[.int .i64 x, .int .i64 n, .string s] w fun e w' => e = .returned (.bool true) ∧ Below w.heap.size w w' := by
  have HX := Lib.hid (I64.of_wf wx)
  unfold maxLen at hs
  clear wx wn
  by_cases hn : n = 1 ∨ n = 2 ∨ n = 4 ∨ n = 8
  · have HN := Lib.hid hn
    by_cases hlen : n ≤ s.size
    · clear hn
      go_enter Try.func10, Try.ntmps10
      go_wp2_with fail
      refine (shown1_any _).mono ?_; rintro e w1 ⟨rfl, hb⟩
      go_wp2_with fail
      refine (lay_any x n HN.out _).mono ?_; rintro e w2 ⟨rfl, hb2⟩
      go_wp2_with fail
      refine (refLay_any x n HX.out HN.out _).mono ?_; rintro e w3 ⟨rfl, hb3⟩
      go_wp2_with fail
      refine (take_any s n HN.out hlen hs _).mono ?_; rintro e w' ⟨rfl, rfl⟩
      go_wp2_with fail
      refine (refTake_any s n HN.out hlen hs _).mono ?_; rintro e w' ⟨rfl, rfl⟩
      go_wp2_with fail
      go_ret
      exact ⟨ret_bool (by simp), hb.trans ((hb2.trans (hb3.mono hb2.size)).mono hb.size)⟩
    · have hsh : (s.size : Int) < n := by omega
      clear hn hlen
      go_enter Try.func10, Try.ntmps10
      go_wp2_with fail
      refine (shown1_any _).mono ?_; rintro e w1 ⟨rfl, hb⟩
      go_wp2_with fail
      refine (lay_any x n HN.out _).mono ?_; rintro e w2 ⟨rfl, hb2⟩
      go_wp2_with fail
      refine (refLay_any x n HX.out HN.out _).mono ?_; rintro e w3 ⟨rfl, hb3⟩
      go_wp2_with fail
      refine (take_short s n HN.out hsh _).mono ?_; rintro e w' ⟨rfl, rfl⟩
      go_wp2_with fail
      refine (refTake_short s n HN.out hsh _).mono ?_; rintro e w' ⟨rfl, rfl⟩
      go_wp2_with fail
      go_ret
      exact ⟨ret_bool (by simp), hb.trans ((hb2.trans (hb3.mono hb2.size)).mono hb.size)⟩
  · have HN := Lib.hid hn
    clear hn
    go_enter Try.func10, Try.ntmps10
    go_wp2_with fail
    refine (shown1_any _).mono ?_; rintro e w1 ⟨rfl, hb⟩
    go_wp2_with fail
    refine (lay_no x n HN.out _).mono ?_; rintro e w2 ⟨rfl, rfl⟩
    go_wp2_with fail
    refine (refLay_no x n HN.out _).mono ?_; rintro e w3 ⟨rfl, rfl⟩
    go_wp2_with fail
    refine (take_no s n HN.out _).mono ?_; rintro e w' ⟨rfl, rfl⟩
    go_wp2_with fail
    refine (refTake_no s n HN.out _).mono ?_; rintro e w' ⟨rfl, rfl⟩
    go_wp2_with fail
    go_ret
    exact ⟨ret_bool (by simp), hb⟩
end Go.Proofs.Ytojnlkbfhodaaaa
