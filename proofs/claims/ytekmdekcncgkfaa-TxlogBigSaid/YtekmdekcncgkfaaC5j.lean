/- Layer 5: contracts of the program's Len, find, Get. -/
import Derived.Test.YtekmdekcncgkfaaC5i
import Derived.WalkMore
namespace Go.Proofs.Ytekmdekcncgkfaa
open Go.RowKit
set_option linter.unusedVariables false
theorem and_at1 (q : Int) (h0 : 0 ≤ q) (h1 : q < 512) : bits .and .i64 q 1 = q % 2 := by
  unfold bits
  rw [IntKind.wrap_i64]
  have : (BitVec.ofInt IntKind.i64.bits q &&& BitVec.ofInt IntKind.i64.bits 1).toNat = (q % 18446744073709551616).toNat % 2 := by
    show (BitVec.ofInt 64 q &&& BitVec.ofInt 64 1).toNat = _
    rw [BitVec.toNat_and, ofInt64_toNat, ofInt64_toNat]
    exact nat_mask1 _
  simp only [this]
  omega
theorem and_at2 (q : Int) (h0 : 0 ≤ q) (h1 : q < 512) : bits .and .i64 q 3 = q % 4 := by
  unfold bits
  rw [IntKind.wrap_i64]
  have : (BitVec.ofInt IntKind.i64.bits q &&& BitVec.ofInt IntKind.i64.bits 3).toNat = (q % 18446744073709551616).toNat % 4 := by
    show (BitVec.ofInt 64 q &&& BitVec.ofInt 64 3).toNat = _
    rw [BitVec.toNat_and, ofInt64_toNat, ofInt64_toNat]
    exact nat_mask2 _
  simp only [this]
  omega
theorem and_at3 (q : Int) (h0 : 0 ≤ q) (h1 : q < 512) : bits .and .i64 q 7 = q % 8 := by
  unfold bits
  rw [IntKind.wrap_i64]
  have : (BitVec.ofInt IntKind.i64.bits q &&& BitVec.ofInt IntKind.i64.bits 7).toNat = (q % 18446744073709551616).toNat % 8 := by
    show (BitVec.ofInt 64 q &&& BitVec.ofInt 64 7).toNat = _
    rw [BitVec.toNat_and, ofInt64_toNat, ofInt64_toNat]
    exact nat_mask3 _
  simp only [this]
  omega
theorem and_at4 (q : Int) (h0 : 0 ≤ q) (h1 : q < 512) : bits .and .i64 q 15 = q % 16 := by
  unfold bits
  rw [IntKind.wrap_i64]
  have : (BitVec.ofInt IntKind.i64.bits q &&& BitVec.ofInt IntKind.i64.bits 15).toNat = (q % 18446744073709551616).toNat % 16 := by
    show (BitVec.ofInt 64 q &&& BitVec.ofInt 64 15).toNat = _
    rw [BitVec.toNat_and, ofInt64_toNat, ofInt64_toNat]
    exact nat_mask4 _
  simp only [this]
  omega
theorem and_at5 (q : Int) (h0 : 0 ≤ q) (h1 : q < 512) : bits .and .i64 q 31 = q % 32 := by
  unfold bits
  rw [IntKind.wrap_i64]
  have : (BitVec.ofInt IntKind.i64.bits q &&& BitVec.ofInt IntKind.i64.bits 31).toNat = (q % 18446744073709551616).toNat % 32 := by
    show (BitVec.ofInt 64 q &&& BitVec.ofInt 64 31).toNat = _
    rw [BitVec.toNat_and, ofInt64_toNat, ofInt64_toNat]
    exact nat_mask5 _
  simp only [this]
  omega
theorem and_at6 (q : Int) (h0 : 0 ≤ q) (h1 : q < 512) : bits .and .i64 q 63 = q % 64 := by
  unfold bits
  rw [IntKind.wrap_i64]
  have : (BitVec.ofInt IntKind.i64.bits q &&& BitVec.ofInt IntKind.i64.bits 63).toNat = (q % 18446744073709551616).toNat % 64 := by
    show (BitVec.ofInt 64 q &&& BitVec.ofInt 64 63).toNat = _
    rw [BitVec.toNat_and, ofInt64_toNat, ofInt64_toNat]
    exact nat_mask6 _
  simp only [this]
  omega
theorem and_mask (x n : Int) (h : n = 2 ∨ n = 4 ∨ n = 8 ∨ n = 16 ∨ n = 32 ∨ n = 64) (h0 : 0 ≤ x) (h1 : x < 512) : bits .and .i64 x (n - 1) = x % n := by
  rcases h with rfl | rfl | rfl | rfl | rfl | rfl
  · exact and_at1 x h0 h1
  · exact and_at2 x h0 h1
  · exact and_at3 x h0 h1
  · exact and_at4 x h0 h1
  · exact and_at5 x h0 h1
  · exact and_at6 x h0 h1
set_option maxHeartbeats 1000000 in
theorem find_any (st : TS) (hI : Inv st) (p : Nat) (lv sv : Value) (w : World) (hR : TabAt w p lv sv st) (c : Int) :
    Calls Try.prog 34 #[.pointer (some ⟨p, 0, none⟩), .int .i64 c] w fun e w' => e = .returned (.tuple #[.int .i64 (findT st c).1, .bool (findT st c).2]) ∧ w = w' := by
  have hv := hash_val st.most c
  have hn := numT_pos st.most
  have hnc := numT_cases st.most
  have hwd := widT_range st.most
  have hhl := hashT_lt st.most c
  have HF : Hid (probe st c (numT st.most) (hashT st.most c) = findT st c) := rfl
  obtain ⟨a, cap, rfl⟩ := ownAt_form hR.2.2.1
  obtain ⟨gs, cs, rfl, _, hgs, hcellS, hfS, hsetS⟩ := own_parts hR.2.1 (by omega)
  have hc1 : w.cell? ⟨p, 1, none⟩ = some (.slice (some ⟨gs, 0, none⟩) (numT st.most) cs) := by simp [World.cell?, hR.1]
  have hc2 : w.cell? ⟨p, 2, none⟩ = some (.slice a st.rows.length cap) := by simp [World.cell?, hR.1]
  have hc3 : w.cell? ⟨p, 3, none⟩ = some (.int .u64 ((64 - widT st.most : Nat) : Int)) := by simp [World.cell?, hR.1]
  have HRR := Lib.hid hR
  have HCS := Lib.hid hcellS
  have HI := Lib.hid hI
  have hm := own_len hR.2.2.1
  generalize hN : numT st.most = N at *
  generalize hK : hashT st.most c = k0 at *
  obtain ⟨by', hby⟩ : ∃ b : Nat, 64 - widT st.most = b := ⟨_, rfl⟩
  rw [hby] at hv hc3
  have hb1 : by' ≤ 63 := by omega
  have hb2 : 0 ≤ (by' : Int) := by omega
  have HV := Lib.hid hv
  have HNN := Lib.hid hN
  have HNC : Hid ((N : Int) = 2 ∨ (N : Int) = 4 ∨ (N : Int) = 8 ∨ (N : Int) = 16 ∨ (N : Int) = 32 ∨ (N : Int) = 64) := by show _ ∨ _; omega
  obtain ⟨r, HRES⟩ : ∃ r, Hid (findT st c = r) := ⟨_, rfl⟩
  rw [HRES.out] at HF ⊢
  clear hv hR hI hcellS hsetS hfS hN hK hby hnc hwd
  go_enter Try.func34, Try.ntmps34
  go_wp2_with fail
  go_step3
  go_wp2_with fail
  have e0 : wrap64 (IntKind.u64.wrap (IntKind.u64.wrap c * 11400714819323198485) / 2 ^ by') = (k0 : Int) := by
    rw [HV.out]; unfold wrap64; omega
  rw [e0]
  clear e0
  go_step3
  go_wp2_with fail
  go_loop [6, 7, 22] (fun k _ j => ∃ kk jj : Nat, jj ≤ N ∧ kk < N ∧ k = .int .i64 kk ∧ j = .int .i64 jj ∧ Hid (probe st c (N - jj) kk = r)) (fun _ _ j => N - (intOf j).toNat)
  case atStart => exact ⟨k0, 0, by omega, hhl, rfl, rfl, HF.out⟩
  case round =>
    obtain ⟨kk, jj, hjj, hkk, rfl, rfl, HP⟩ := hrel
    by_cases hlt : jj < N
    · have hsl : st.sl.length = N := by rw [HI.out.len]; exact HNN.out
      have hsk : w.cell? ⟨gs, kk, none⟩ = some (.int .i64 (slotAt st.sl kk)) := by
        rw [HCS.out kk (by omega), List.getElem?_map, List.getElem?_eq_getElem (by omega)]
        unfold slotAt
        rw [List.getD_eq_getElem?_getD, List.getElem?_eq_getElem (by omega)]; rfl
      obtain ⟨f, hf⟩ : ∃ f, N - jj = f + 1 := ⟨N - jj - 1, by omega⟩
      have HF2 : Hid (N - (jj + 1) = f) := by show _ = _; omega
      have hP := HP.out
      rw [hf] at hP
      unfold probe at hP
      by_cases hs : slotAt st.sl kk = -1
      · rw [if_pos hs] at hP
        rw [hs] at hsk
        have HP2 := Lib.hid hP
        clear hP hf hs hsl
        go_wp2_with fail
        go_ret2
        exact ⟨by rw [← HP2.out]; rfl, rfl⟩
      · have hrng := (HI.out.rng kk (by rw [HNN.out]; exact hkk)).resolve_left hs
        rw [if_neg hs] at hP
        obtain ⟨i, hi2⟩ : ∃ i : Nat, slotAt st.sl kk = i := ⟨(slotAt st.sl kk).toNat, by omega⟩
        rw [hi2] at hsk hP
        rw [Int.toNat_natCast] at hP
        have hil : i < st.rows.length := by omega
        obtain ⟨g, c2, he2, hy1, hy2, hf2⟩ := rows_cells HRR.out.2.2.1 i hil
        obtain ⟨rfl, rfl⟩ := slice_inj he2
        have hi0 : ((i : Int) == -1) = false := by simp
        have hi1 : (i : Int) < st.rows.length := by omega
        by_cases hc : cellAt st.rows i = c
        · rw [if_pos hc] at hP
          rw [hc] at hy1
          have HP2 := Lib.hid hP
          clear hP hf hs hsl hrng hi2 he2 hf2 hy2 hc
          go_wp2_with fail
          go_ret2
          exact ⟨by rw [← HP2.out]; rfl, rfl⟩
        · rw [if_neg hc, HNN.out] at hP
          have HP2 := Lib.hid hP
          obtain ⟨x, hx⟩ : ∃ x, cellAt st.rows i = x := ⟨_, rfl⟩
          rw [hx] at hc hy1
          have hxc : (x == c) = false := by simp [hc]
          have hand := and_mask ((kk : Int) + 1) N HNC.out (by omega) (by omega)
          clear hP hf hs hsl hrng hi2 he2 hf2 hy2 hc hx
          go_wp2_with fail
          go_round
          case rel =>
            have h1 := Nat.mod_lt (kk + 1) (show 0 < N by omega)
            exact ⟨(kk + 1) % N, jj + 1, by omega, h1, by go_num, by go_num, by show _ = _; rw [HF2.out]; exact HP2.out⟩
          case measure => simp [intOf]; omega
    · obtain rfl : jj = N := by omega
      have hP := HP.out
      rw [Nat.sub_self] at hP
      have HP2 := Lib.hid hP
      clear hP
      go_wp2_with fail
      go_ret2
      exact ⟨by rw [← HP2.out]; rfl, rfl⟩
set_option maxHeartbeats 1000000 in
theorem tabGet_any (st : TS) (hI : Inv st) (p : Nat) (lv sv : Value) (w : World) (hR : TabAt w p lv sv st) (c : Int) :
    Calls Try.prog 21 #[.pointer (some ⟨p, 0, none⟩), .int .i64 c] w fun e w' => e = .returned (.tuple #[.int .i64 (getV st c), .bool (getB st c)]) ∧ Below w.heap.size w w' := by
  have HF : Hid (∀ w, TabAt w p lv sv st → Calls Try.prog 34 #[.pointer (some ⟨p, 0, none⟩), .int .i64 c] w fun e w' => e = .returned (.tuple #[.int .i64 (findT st c).1, .bool (findT st c).2]) ∧ w = w') := fun w h => find_any st hI p lv sv w h c
  have HR := Lib.hid hR
  by_cases hneg : c < 0
  · have HG : Hid (getV st c = 0 ∧ getB st c = false) := by
      have hr : rowOf st.rows c = none := rowOf_isNone fun j hj => by have := hI.cells j hj; omega
      show _ ∧ _
      unfold getV getB
      rw [hr]; exact ⟨rfl, rfl⟩
    clear hR hI
    go_enter Try.func21, Try.ntmps21
    go_wp2_with fail
    go_ret2
    exact ⟨by rw [HG.out.1, HG.out.2]; rfl, Below.refl _ _⟩
  · cases hr : rowOf st.rows c with
    | none =>
      have HZ : Hid (findT st c = (freeAt st.sl (numT st.most) (hashT st.most c), false)) := find_absent hI hr
      have HG : Hid (getV st c = 0 ∧ getB st c = false) := by show _ ∧ _; unfold getV getB; rw [hr]; exact ⟨rfl, rfl⟩
      generalize freeAt st.sl (numT st.most) (hashT st.most c) = k at *
      clear hR hr hI
      go_enter Try.func21, Try.ntmps21
      go_wp2_with fail
      refine (HF.out _ HR.out).mono ?_; rw [HZ.out]; rintro e w' ⟨rfl, rfl⟩
      go_wp2_with fail
      go_ret2
      exact ⟨by rw [HG.out.1, HG.out.2]; rfl, Below.refl _ _⟩
    | some i =>
      obtain ⟨hi, hc, _⟩ := rowOf_some hr
      obtain ⟨k, hfk, hk, hsk⟩ := find_there hI hr
      have HZ := Lib.hid hfk
      have HG : Hid (getV st c = valAt st.rows i ∧ getB st c = true) := by show _ ∧ _; unfold getV getB; rw [hr]; exact ⟨rfl, rfl⟩
      obtain ⟨g, c', rfl, hx1, hx2, hf⟩ := rows_cells hR.2.2.1 i hi
      obtain ⟨gs, cs, rfl, hy1, hf2⟩ := slots_cells hR.2.1 k hk
      rw [hsk] at hy1
      have hc1 : w.cell? ⟨p, 1, none⟩ = some (.slice (some ⟨gs, 0, none⟩) (numT st.most) cs) := by simp [World.cell?, hR.1]
      have hc2 : w.cell? ⟨p, 2, none⟩ = some (.slice (some ⟨g, 0, none⟩) st.rows.length c') := by simp [World.cell?, hR.1]
      have hm := own_len hR.2.2.1
      have hk2 : (k : Int) < numT st.most := by omega
      have hi2 : (i : Int) < st.rows.length := by omega
      have hnn := numT_pos st.most
      clear hR hr hc hx1 hf hf2 hI hfk hsk
      go_enter Try.func21, Try.ntmps21
      go_wp2_with fail
      refine (HF.out _ HR.out).mono ?_; rw [HZ.out]; rintro e w' ⟨rfl, rfl⟩
      go_wp2_with fail
      go_quiet (fail)
      go_wp2_with fail
      go_ret2
      exact ⟨by rw [HG.out.1, HG.out.2]; rfl, below_drewN (Below.refl _ _) _⟩
end Go.Proofs.Ytekmdekcncgkfaa
