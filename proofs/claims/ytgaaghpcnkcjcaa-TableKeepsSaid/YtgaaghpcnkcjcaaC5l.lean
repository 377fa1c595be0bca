/- Layer 5: contracts of the program's List and Slots. -/
import Derived.Test.YtgaaghpcnkcjcaaC5k
import Derived.Test.YtgaaghpcnkcjcaaM2
namespace Go.Proofs.Ytgaaghpcnkcjcaa
open Go.RowKit
set_option linter.unusedVariables false
set_option maxHeartbeats 1000000 in
theorem tabList_any (st : TS) (p : Nat) (lv sv : Value) (w : World) (hR : TabAt w p lv sv st) (hm : st.rows.length ≤ 24) :
    Calls Try.prog 13 #[.pointer (some ⟨p, 0, none⟩)] w (RowsOut w st.rows) := by
  obtain ⟨i0, hi, hI0, hI1, hI2⟩ := info_parts infoWrite
  obtain ⟨a, cap, rfl⟩ := ownAt_form hR.2.2.1
  have hcp : w.cell? ⟨p, 2, none⟩ = some (.slice a st.rows.length cap) := by simp [World.cell?, hR.1]
  have HRR := Lib.hid hR
  have hp := heap_lt hR.1
  clear hR
  go_enter Try.func13, Try.ntmps13
  go_wp2_with (at_make; refine wpList_make_full _ rfl (.tmp 10) (.tmp 10) 28 rfl w.heap.size 36 i0 (.agg #[.int .i64 0, .int .i64 0]) 2 Try.underlying28 hi hI0 hI1 .i64 .i64 st.rows.length st.rows.length st.rows.length rfl rfl rfl rfl (by rw [hI2]; omega) (by unfold maxLen; omega) (Nat.le_refl _) ?_)
  intro w1 hown hgrow
  have HB1 : Hid (Below w.heap.size w w1) := (Chg.grown hgrow).below (fun i e => by simp at e) (Nat.le_refl _)
  have hcp1 : w1.cell? ⟨p, 2, none⟩ = some (.slice a st.rows.length cap) := (HB1.out.cell (p := ⟨p, 2, none⟩) hp).trans hcp
  have hsrc := own_calm HRR.out.2.2.1 HB1.out
  have HO := Lib.hid hown
  clear hown hgrow
  have hown := HO.out
  obtain ⟨w2, hrun, hown2, hgrow2⟩ := run_copy_wide (P := Try.prog) w1 28 28 3 36 i0 2 Try.underlying28 hi hI1 hown hsrc (rowCells_one _)
  have HO2 := Lib.hid hown2
  have HB2 : Hid (Below w.heap.size w w2) := HB1.out.trans (((Below.refl _ _).grown hgrow2 HB1.out.size (fun k hk => (HO.out.lt k hk).1)))
  clear hown hown2 hgrow2 hsrc
  go_wp2_with fail
  go_ret
  exact ⟨_, rfl, HO2.out, HB2.out⟩
theorem take_set_next {xs ys : List Value} {k : Nat} {v : Value} (hk : k < xs.length) (h : xs.take k = ys) : (xs.set k v).take (k + 1) = ys ++ [v] := by
  rw [List.take_add_one, List.getElem?_set, if_pos rfl, if_pos hk, List.take_set, h]
  congr 1
  apply List.set_eq_of_length_le
  rw [← h, List.length_take]
  omega
set_option maxHeartbeats 2000000 in
theorem tabSlots_any (st : TS) (hI : Inv st) (p : Nat) (lv sv : Value) (w : World) (hR : TabAt w p lv sv st) :
    Calls Try.prog 14 #[.pointer (some ⟨p, 0, none⟩)] w (IntsOut w (slotsC st)) := by
  obtain ⟨i0, hi, hI0, hI1, hI2⟩ := info_parts infoInt5
  obtain ⟨a, cap, rfl⟩ := ownAt_form hR.2.2.1
  obtain ⟨sa, scap, rfl⟩ := ownAt_form hR.2.1
  have HRR := Lib.hid hR
  have HI := Lib.hid hI
  have hn := numT_pos st.most
  have hlen := hI.len
  have hp := heap_lt hR.1
  have hcp0 : w.cell? ⟨p, 1, none⟩ = some (.slice sa (numT st.most) scap) := by simp [World.cell?, hR.1]
  generalize hN : numT st.most = N at *
  have HN := Lib.hid hN
  have HLN := Lib.hid hlen
  clear hR hI hN hlen
  go_enter Try.func14, Try.ntmps14
  go_wp2_with (at_make; refine wpList_make_full _ rfl (.tmp 12) (.tmp 12) 30 rfl w.heap.size 3 i0 (.int .i64 0) 1 Try.underlying30 hi hI0 hI1 .i64 .i64 N N N rfl rfl rfl rfl (by rw [hI2]; omega) (by unfold maxLen; omega) (Nat.le_refl _) ?_)
  intro w1 hown hgrow
  have HB1 : Hid (Below w.heap.size w w1) := (Chg.grown hgrow).below (fun i e => by simp at e) (Nat.le_refl _)
  have hz1 := hgrow.size
  have hcp1 : w1.cell? ⟨p, 1, none⟩ = some (.slice sa N scap) := (HB1.out.cell (p := ⟨p, 1, none⟩) hp).trans hcp0
  have HO := Lib.hid hown
  clear hown hgrow
  go_wp2_with fail
  go_loopw [4, 5, 19] (fun _ _ j wr => ∃ k : Nat, k ≤ N ∧ j = .int .i64 k ∧ w.heap.size ≤ wr.heap.size ∧ Hid (Below w.heap.size w wr ∧ ∃ xs : List Value, wr.ownsRow w.heap.size 3 1 (.slice (some ⟨w.heap.size, 0, none⟩) N N) N xs ∧ xs.take k = ((slotsC st).take k).map (Value.int .i64))) (fun _ _ j _ => N - (intOf j).toNat)
  case atStart => exact ⟨0, by omega, rfl, hz1, HB1.out, _, HO.out, rfl⟩
  case round =>
    obtain ⟨k, hk, rfl, hsz, HH⟩ := hrel
    have HRD := Lib.hid (HRR.out.calm HH.out.1)
    have hcq1 : wr.cell? ⟨p, 1, none⟩ = some (.slice sa N scap) := by simp [World.cell?, HRD.out.1]
    have hcq2 : wr.cell? ⟨p, 2, none⟩ = some (.slice a st.rows.length cap) := by simp [World.cell?, HRD.out.1]
    by_cases hlt : k < N
    · obtain ⟨gs, c', he, hx, hf⟩ := slots_cells HRD.out.2.1 k (by rw [HN.out]; exact hlt)
      rw [HN.out] at he
      obtain ⟨rfl, rfl⟩ := slice_inj he
      have HT := Lib.hid (slotsC_take (st := st) (k := k) (by rw [HLN.out]; exact hlt))
      obtain ⟨hbw, xs, hxo, hxt⟩ := HH.out
      obtain ⟨g1, c1, hv1, hB1, hg1, hcell, hfz, hset⟩ := own_parts hxo (by omega)
      obtain ⟨e1, e2⟩ := slice_inj hv1
      obtain rfl : w.heap.size = g1 := by simpa using e1
      have hlx : xs.length = N := by have := hxo.1; omega
      obtain ⟨u, hu⟩ : ∃ u, xs[k]? = some u := ⟨_, List.getElem?_eq_getElem (by omega)⟩
      have hck : wr.cell? ⟨w.heap.size, k, none⟩ = some u := (hcell k (by omega)).trans hu
      have HTK := Lib.hid (fun v => take_set_next (v := v) (by omega : k < xs.length) hxt)
      have HSET := Lib.hid (fun v => hset k v (by omega))
      by_cases hs : slotAt st.sl k = -1
      · rw [hs] at hx
        rw [if_pos hs] at HT
        clear he hf hs hxo hxt hcell hset hv1 e1 e2 hu hlx hbw
        go_wp2_with fail
        go_roundw
        case rel =>
          refine ⟨k + 1, by omega, by go_num, by simp [World.setCell]; omega, HH.out.1.setCell (by simp) _, _, HSET.out _, ?_⟩
          rw [HTK.out, HT.out, List.map_append]; rfl
        case measure => simp [intOf]; omega
      · have hrng := (HI.out.rng k (by rw [HN.out]; exact hlt)).resolve_left hs
        rw [if_neg hs] at HT
        obtain ⟨i, hi2⟩ : ∃ i : Nat, slotAt st.sl k = i := ⟨(slotAt st.sl k).toNat, by omega⟩
        rw [hi2] at hx
        rw [hi2, Int.toNat_natCast] at HT
        have hil : i < st.rows.length := by omega
        obtain ⟨g, c2, he2, hy1, hy2, hf2⟩ := rows_cells HRD.out.2.2.1 i hil
        obtain ⟨rfl, rfl⟩ := slice_inj he2
        have hi0 : ((i : Int) == -1) = false := by simp
        have hi00 : ((i : Int) != -1) = true := by simp
        have hi1 : (i : Int) < st.rows.length := by omega
        have hpw : ¬ (p = w.heap.size) := by omega
        have hgw : ¬ (g = w.heap.size) := by
          have := own_lt HRR.out.2.2.1 (b := g) rfl
          omega
        clear he hf hs hrng hi2 he2 hf2 hy2 hxo hxt hcell hset hv1 e1 e2 hu hlx hbw
        generalize cellAt st.rows i = x at *
        go_wp2_with fail
        go_roundw
        case rel =>
          obtain ⟨g3, c3, hv3, _, _, _, _, hset3⟩ := own_parts (HSET.out (.int .i64 (-1))) (by omega)
          obtain ⟨e3, _⟩ := slice_inj hv3
          obtain rfl : w.heap.size = g3 := by simpa using e3
          have hown3 := hset3 k (.int .i64 x) (by omega)
          rw [List.set_set] at hown3
          refine ⟨k + 1, by omega, by go_num, by simp [World.setCell]; omega, (HH.out.1.setCell (by simp) _).setCell (by simp) _, _, hown3, ?_⟩
          rw [HTK.out, HT.out, List.map_append]; rfl
        case measure => simp [intOf]; omega
    · obtain rfl : k = N := by omega
      obtain ⟨hbw, xs, hxo, hxt⟩ := HH.out
      have HX := Lib.hid hxo
      have hxt2 : xs = (slotsC st).map (Value.int .i64) := by
        rw [List.take_of_length_le (by have := hxo.1; omega), List.take_of_length_le (by rw [slotsC_length, HLN.out]; exact Nat.le_refl _)] at hxt
        exact hxt
      have HXT := Lib.hid hxt2
      clear hxo hxt hxt2 hbw
      go_wp2_with fail
      go_ret
      refine ⟨_, rfl, ?_, HH.out.1⟩
      rw [slotsC_length, HLN.out, ← HXT.out]
      exact HX.out
end Go.Proofs.Ytgaaghpcnkcjcaa
