/- Layer 5: contracts of the reference's First, find, Get, Put. -/
import Derived.Test.YtekmdekcncgkfaaC5a
import Derived.Test.YtekmdekcncgkfaaC1
namespace Go.Proofs.Ytekmdekcncgkfaa
open Go.RowKit
set_option linter.unusedVariables false
set_option maxHeartbeats 400000 in
theorem first_any (st : TS) (hI : Inv st) (p : Nat) (lv sv : Value) (w : World) (hR : RefAt w p lv sv st) (c : Int) :
    Calls Try.prog 48 #[.pointer (some ⟨p, 0, none⟩), .int .i64 c] w fun e w' => e = .returned (.int .i64 (hashT st.most c)) ∧ w = w' := by
  have hc : w.cell? ⟨p, 0, none⟩ = some (.int .i64 st.most) := by simp [World.cell?, hR.1]
  have h1 := hI.m1
  have h2 := hI.m2
  have hv := hash_val st.most c
  have hlt := hashT_lt st.most c
  have hn := numT_pos st.most
  have hw := widT_range st.most
  have HS : Hid (∀ w, Calls Try.prog 46 #[.int .i64 st.most] w fun e w' => e = .returned (.tuple #[.int .i64 (numT st.most), .int .i64 ((64 - widT st.most : Nat) : Int)]) ∧ w = w') := refSize_any st.most h1 h2
  generalize hashT st.most c = h at *
  clear hR hI
  obtain ⟨by', hby⟩ : ∃ b : Nat, 64 - widT st.most = b := ⟨_, rfl⟩
  rw [hby] at hv
  have HS2 := HS.out
  rw [hby] at HS2
  have HS3 := Lib.hid HS2
  have hb1 : by' ≤ 63 := by omega
  have hb2 : 0 ≤ (by' : Int) := by omega
  have HV := Lib.hid hv
  clear hv HS HS2 hby
  go_enter Try.func48, Try.ntmps48
  go_wp2_with fail
  refine (HS3.out _).mono ?_; rintro e w' ⟨rfl, rfl⟩
  go_wp2_with fail
  have e : wrap64 (IntKind.u64.wrap (IntKind.u64.wrap c * 11400714819323198485) / 2 ^ by') = (h : Int) := by
    rw [HV.out]; unfold wrap64; omega
  go_ret
  exact ⟨ret_i64 e, rfl⟩
def rowZ (rows : List (Int × Int)) (c : Int) : Int := match rowOf rows c with | some i => (i : Int) | none => -1
theorem slice_inj {a b : Option Addr} {n m c d : Nat} (h : Value.slice a n c = .slice b m d) : a = b ∧ c = d := by simp at h; exact ⟨h.1, h.2.2⟩
set_option maxHeartbeats 400000 in
theorem refFind_any (st : TS) (p : Nat) (lv sv : Value) (w : World) (hR : RefAt w p lv sv st) (c : Int) :
    Calls Try.prog 47 #[.pointer (some ⟨p, 0, none⟩), .int .i64 c] w fun e w' => e = .returned (.int .i64 (rowZ st.rows c)) ∧ w = w' := by
  obtain ⟨a, cap, rfl⟩ := ownAt_form hR.2.2.1
  have hc1 : w.cell? ⟨p, 1, none⟩ = some (.slice a st.rows.length cap) := by simp [World.cell?, hR.1]
  have hm := own_len hR.2.2.1
  have HO := Lib.hid hR.2.2.1
  generalize hrows : st.rows = rows at *
  clear hR hrows
  go_enter Try.func47, Try.ntmps47
  go_wp2_with fail
  go_loop [5] (fun i => ∃ k : Nat, k ≤ rows.length ∧ i = .int .i64 k ∧ Hid (∀ j, j < k → cellAt rows j ≠ c)) (fun i => rows.length - (intOf i).toNat)
  case atStart => exact ⟨0, by omega, rfl, fun j hj => by omega⟩
  case round =>
    obtain ⟨k, hk, rfl, HH⟩ := hrel
    by_cases hlt : k < rows.length
    · obtain ⟨g, c', he, hx1, hx2, hf⟩ := rows_cells HO.out k hlt
      obtain ⟨rfl, rfl⟩ := slice_inj he
      obtain ⟨x, HX⟩ : ∃ x, Hid (cellAt rows k = x) := ⟨_, rfl⟩
      rw [HX.out] at hx1
      clear he hx2 hf
      by_cases hxc : x = c
      · have hb : (x == c) = true := by simp [hxc]
        have HR : Hid (rowZ rows c = k) := by
          show _ = _
          unfold rowZ
          rw [rowOf_of hlt (HX.out.trans hxc) HH.out]
        clear hxc
        go_wp2
        go_ret
        exact ⟨ret_i64 HR.out.symm, rfl⟩
      · have hb : (x == c) = false := by simp [hxc]
        have HC := Lib.hid hxc
        clear hxc
        go_wp2
        go_round
        case rel =>
          refine ⟨k + 1, by omega, by go_num, fun j hj => ?_⟩
          by_cases hjk : j = k
          · subst hjk; rw [HX.out]; exact HC.out
          · exact HH.out j (by omega)
        case measure => simp [intOf]; omega
    · obtain rfl : k = rows.length := by omega
      go_wp2
      go_ret
      refine ⟨ret_i64 ?_, rfl⟩
      unfold rowZ
      rw [rowOf_isNone HH.out]
set_option maxHeartbeats 400000 in
theorem refGet_any (st : TS) (p : Nat) (lv sv : Value) (w : World) (hR : RefAt w p lv sv st) (c : Int) :
    Calls Try.prog 39 #[.pointer (some ⟨p, 0, none⟩), .int .i64 c] w fun e w' => e = .returned (.tuple #[.int .i64 (getV st c), .bool (getB st c)]) ∧ w = w' := by
  have HF : Hid (∀ w, RefAt w p lv sv st → Calls Try.prog 47 #[.pointer (some ⟨p, 0, none⟩), .int .i64 c] w fun e w' => e = .returned (.int .i64 (rowZ st.rows c)) ∧ w = w') := fun w h => refFind_any st p lv sv w h c
  have HR := Lib.hid hR
  cases hr : rowOf st.rows c with
  | none =>
    have HZ : Hid (rowZ st.rows c = -1) := by show _ = _; unfold rowZ; rw [hr]
    have HG : Hid (getV st c = 0 ∧ getB st c = false) := by show _ ∧ _; unfold getV getB; rw [hr]; exact ⟨rfl, rfl⟩
    clear hR hr
    go_enter Try.func39, Try.ntmps39
    go_wp2_with fail
    refine (HF.out _ HR.out).mono ?_; rw [HZ.out]; rintro e w' ⟨rfl, rfl⟩
    go_wp2_with fail
    go_ret2
    exact ⟨by rw [HG.out.1, HG.out.2]; rfl, rfl⟩
  | some i =>
    obtain ⟨hi, hc, _⟩ := rowOf_some hr
    have HZ : Hid (rowZ st.rows c = i) := by show _ = _; unfold rowZ; rw [hr]
    have HG : Hid (getV st c = valAt st.rows i ∧ getB st c = true) := by show _ ∧ _; unfold getV getB; rw [hr]; exact ⟨rfl, rfl⟩
    obtain ⟨g, c', rfl, hx1, hx2, hf⟩ := rows_cells hR.2.2.1 i hi
    have hc1 : w.cell? ⟨p, 1, none⟩ = some (.slice (some ⟨g, 0, none⟩) st.rows.length c') := by simp [World.cell?, hR.1]
    have hm := own_len hR.2.2.1
    clear hR hr hc hx1 hf
    go_enter Try.func39, Try.ntmps39
    go_wp2_with fail
    refine (HF.out _ HR.out).mono ?_; rw [HZ.out]; rintro e w' ⟨rfl, rfl⟩
    go_wp2_with fail
    go_ret2
    exact ⟨by rw [HG.out.1, HG.out.2]; rfl, rfl⟩
end Go.Proofs.Ytekmdekcncgkfaa
