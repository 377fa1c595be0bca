/- The walk of ShiftBack. -/
import Derived.Test.YtojnlkbfhodaaaaW1
import Derived.Test.YtojnlkbfhodaaaaR1
namespace Go.Proofs.Ytojnlkbfhodaaaa
open Go.RowKit
set_option linter.unusedVariables false
theorem turnZ_congr (x k n : Int) (h : k % 64 = n % 64) : turnZ x k = turnZ x n := by unfold turnZ; rw [h]
theorem tmod64 (n : Int) : n.tmod 64 % 64 = n % 64 := by
  rw [Int.tmod_eq_emod]; split <;> omega
theorem tdiv2_range (s : Int) (h : I64 s) : -4611686018427387904 ≤ s.tdiv 2 ∧ s.tdiv 2 ≤ 4611686018427387903 := by
  unfold I64 at h; rw [tdiv2]; split <;> omega
theorem head_back (s : Int) (d : Bool) (h0 : -4611686018427387904 ≤ s) (h1 : s ≤ 4611686018427387903) : headZ s d / 2 = s ∧ (headZ s d % 2 == 1) = d := by
  unfold headZ
  rw [wrap64_id (s * 2) (by omega) (by omega)]
  cases d
  · simp
  · simp; omega
set_option maxHeartbeats 1000000 in
theorem shiftBack_core (x n st v : Int) (d : Bool) (HX : Hid (U64 x)) (HS : Hid (I64 st)) (HV : Hid (I64 v)) (HN : Hid (I64 n)) (w : World) :
    Calls Try.prog 11 #[.agg #[.int .u64 x, .int .i64 n, .int .i64 st, .bool d, .int .i64 v]] w fun e w' => e = .returned (.bool true) ∧ Below w.heap.size w w' := by
  have ht := tdiv2_range st HS.out
  have hs0 := ht.1
  have hs1 := ht.2
  clear ht
  have hk := tmod_lo n 64 (by omega)
  have hk0 := hk.1
  have hk1 := hk.2
  clear hk
  have hv := tmod_lo v 128 (by omega)
  have hv0 := hv.1
  have hv1 := hv.2
  clear hv
  have H8 := Lib.hid (take_lay8 v HV.out)
  have H1 := Lib.hid (take_lay1 (v.tmod 128) (by omega) (by omega))
  have HH := Lib.hid (head_back (st.tdiv 2) d hs0 hs1)
  have HT := Lib.hid (turnZ_range x (n.tmod 64) HX.out.1 HX.out.2)
  have HB := Lib.hid (turn_back x (n.tmod 64) HX.out.1 HX.out.2)
  have hsz : (strOfNums (layL v 8)).size = 8 := by rw [strOfNums_size, layL_length]
  have H8s : Hid (∀ t : ByteArray, takeZ (strNums (strOfNums (layL v 8) ++ t) (8 : Int).toNat) = v) := by
    intro t
    have e := strNums_of (layL v 8) t (layL_range v 8)
    rw [layL_length] at e
    show takeZ (strNums _ 8) = v
    rw [e, H8.out]
  have H1s : Hid (takeZ (strNums (strOfNums (layL (v.tmod 128) 1)) (1 : Int).toNat) = v.tmod 128) := by
    have e := strNums_self (layL (v.tmod 128) 1) (layL_range _ 1)
    rw [layL_length] at e
    show takeZ (strNums _ 1) = _
    rw [e, H1.out]
  go_enter Try.func11, Try.ntmps11
  go_wp2_with fail
  refine (shown1_any _).mono ?_; rintro e w1 ⟨rfl, hb⟩
  simp only [World.size_alloc] at hb
  go_wp2_with fail
  refine (turn_any x _ HX.out.1 HX.out.2 _).mono ?_; rintro e w' ⟨rfl, rfl⟩
  go_wp2_with fail
  refine (turn_any _ _ HT.out.1 HT.out.2 _).mono ?_; rintro e w' ⟨rfl, rfl⟩
  rw [HB.out]
  go_wp2_with fail
  refine (head_any _ d _).mono ?_; rintro e w' ⟨rfl, rfl⟩
  go_wp2_with fail
  refine (stamp_any _ _).mono ?_; rintro e w' ⟨rfl, rfl⟩
  rw [HH.out.1]
  go_wp2_with fail
  refine (done_any _ _).mono ?_; rintro e w' ⟨rfl, rfl⟩
  rw [HH.out.2]
  go_wp2_with fail
  refine (lay_any v 8 (by omega) _).mono ?_; rintro e w2 ⟨rfl, hb2⟩
  go_wp2_with fail
  refine (take_any _ 8 (by omega) (by rw [ByteArray.size_append, hsz]; omega) (by rw [ByteArray.size_append, hsz]; decide) _).mono ?_; rintro e w' ⟨rfl, rfl⟩
  rw [H8s.out]
  go_wp2_with fail
  refine (lay_any _ 1 (by omega) _).mono ?_; rintro e w3 ⟨rfl, hb3⟩
  go_wp2_with fail
  refine (take_any _ 1 (by omega) (by rw [strOfNums_size, layL_length]; decide) (by rw [strOfNums_size, layL_length]; decide) _).mono ?_; rintro e w' ⟨rfl, rfl⟩
  rw [H1s.out]
  go_wp2_with fail
  go_ret
  refine ⟨ret_bool (by simp), ?_⟩
  exact ((Below.refl _ _).alloc (Nat.le_refl _) _).trans ((hb.trans ((hb2.trans (hb3.mono hb2.size)).mono (by have := hb.size; simpa using this))).mono (by simp))
open Go.WideShapes in
theorem open_shiftBackIn {H : Type} {enc : TypeId × Value → H} {W : World} {base b0 : Nat} {sp : Nat → Bool} {held : Bool} {r : Reach} {v : Value} {d : DataW H} {p : List MemPlace}
    (hv : Value.okWide Try.prog W r b0 49 v) (h : DataW.Trod enc Try.prog W base sp held 49 v d p) :
    ∃ (x n st u : Int) (b : Bool), v = .agg #[.int .u64 x, .int .i64 n, .int .i64 st, .bool b, .int .i64 u] ∧ (Lit.int .u64 x).wf = true ∧ (Lit.int .i64 n).wf = true ∧ (Lit.int .i64 st).wf = true ∧ (Lit.int .i64 u).wf = true := by
  obtain ⟨l, rfl, hl, hf⟩ := open_agg (n := 4) (ts := [27, 3, 2, 4, 2]) (.inl ⟨_, Try.underlying49⟩) (by kernel_rfl) hv h
  match l, hl with
  | [c0, c1, c2, c3, c4], _ =>
    obtain ⟨x, rfl, w0⟩ := leaf_int Try.underlying27 (hf 0 _ _ rfl rfl)
    obtain ⟨n, rfl, w1⟩ := leaf_int Try.underlying3 (hf 1 _ _ rfl rfl)
    obtain ⟨st, rfl, w2⟩ := leaf_int Try.underlying2 (hf 2 _ _ rfl rfl)
    obtain ⟨b, rfl⟩ := leaf_bool Try.underlying4 (hf 3 _ _ rfl rfl)
    obtain ⟨u, rfl, w4⟩ := leaf_int Try.underlying2 (hf 4 _ _ rfl rfl)
    exact ⟨x, n, st, u, b, rfl, w0, w1, w2, w4⟩
theorem shiftBack_law (x n st v : Int) (d : Bool) (wx : (Lit.int .u64 x).wf = true) (wn : (Lit.int .i64 n).wf = true) (ws : (Lit.int .i64 st).wf = true) (wv : (Lit.int .i64 v).wf = true) (w : World) :
    Calls Try.prog 11 #[.agg #[.int .u64 x, .int .i64 n, .int .i64 st, .bool d, .int .i64 v]] w fun e w' => e = .returned (.bool true) ∧ Below w.heap.size w w' :=
  shiftBack_core x n st v d (U64.of_wf wx) (I64.of_wf ws) (I64.of_wf wv) (I64.of_wf wn) w
end Go.Proofs.Ytojnlkbfhodaaaa
