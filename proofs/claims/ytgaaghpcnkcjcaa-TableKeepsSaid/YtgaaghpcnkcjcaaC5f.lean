/- Layer 5: contracts of the reference's Slots, SameInts. -/
import Derived.Test.YtgaaghpcnkcjcaaC5e
namespace Go.Proofs.Ytgaaghpcnkcjcaa
open Go.RowKit
set_option linter.unusedVariables false
theorem slotsC_take {st : TS} {k : Nat} (h : k < st.sl.length) : (slotsC st).take (k + 1) = (slotsC st).take k ++ [if slotAt st.sl k = -1 then -1 else cellAt st.rows (slotAt st.sl k).toNat] := by
  have e : (slotsC st)[k]? = some (if slotAt st.sl k = -1 then -1 else cellAt st.rows (slotAt st.sl k).toNat) := by
    unfold slotsC slotAt
    rw [List.getElem?_map, List.getD_eq_getElem?_getD, List.getElem?_eq_getElem h]; rfl
  rw [List.take_add_one, e]; rfl
theorem slotsC_length (st : TS) : (slotsC st).length = st.sl.length := by simp [slotsC]
set_option maxHeartbeats 2000000 in
theorem refSlots_any (st : TS) (hI : Inv st) (p : Nat) (lv sv : Value) (w : World) (hR : RefAt w p lv sv st) :
    Calls Try.prog 24 #[.pointer (some ⟨p, 0, none⟩)] w (IntsOut w (slotsC st)) := by
  obtain ⟨i0, hi, hI0, hI1, hI2⟩ := info_parts infoInt5
  obtain ⟨a, cap, rfl⟩ := ownAt_form hR.2.2.1
  obtain ⟨sa, scap, rfl⟩ := ownAt_form hR.2.1
  have HRR := Lib.hid hR
  have HI := Lib.hid hI
  have hn := numT_pos st.most
  have hlen := hI.len
  have hp := heap_lt hR.1
  have hm := hI.full
  have hm2 := hI.m2
  generalize hN : numT st.most = N at *
  have HN := Lib.hid hN
  have HLN := Lib.hid hlen
  clear hR hI hN hlen
  go_enter Try.func24, Try.ntmps24
  go_wp2_with fail
  go_loopw [3, 4, 5] (fun v i _ wr => ∃ k : Nat, k ≤ N ∧ i = .int .i64 k ∧ wr.ownsRow w.heap.size 3 1 v k (((slotsC st).take k).map (Value.int .i64)) ∧ w.heap.size ≤ wr.heap.size ∧ Hid (Below w.heap.size w wr)) (fun _ i _ _ => N - (intOf i).toNat)
  case atStart => exact ⟨0, by omega, rfl, World.ownsRow_nil _ _ _ _, Nat.le_refl _, Below.refl _ _⟩
  case round =>
    obtain ⟨k, hk, rfl, hown, hsz, HB⟩ := hrel
    have HRD := Lib.hid (HRR.out.calm HB.out)
    have hcp1 : wr.cell? ⟨p, 1, none⟩ = some (.slice a st.rows.length cap) := by simp [World.cell?, HRD.out.1]
    have hcp2 : wr.cell? ⟨p, 2, none⟩ = some (.slice sa N scap) := by simp [World.cell?, HRD.out.1]
    by_cases hlt : k < N
    · obtain ⟨gs, c', he, hx, hf⟩ := slots_cells HRD.out.2.1 k (by rw [HN.out]; exact hlt)
      rw [HN.out] at he
      obtain ⟨rfl, rfl⟩ := slice_inj he
      have HT := Lib.hid (slotsC_take (st := st) (k := k) (by rw [HLN.out]; exact hlt))
      have HO := Lib.hid hown
      by_cases hs : slotAt st.sl k = -1
      · rw [hs] at hx
        rw [if_pos hs] at HT
        clear he hf hown hs
        have hown := HO.out
        go_wp2_with (at_builtin; refine wpList_append_own_at _ rfl (.tmp 37) (.tmp 39) 30 rfl w.heap.size 3 i0 (.int .i64 0) 1 8 Try.underlying30 hi hI0 hI1 hI2 rfl (by decide) _ _ _ rfl (hown.alloc _) ⟨wr.heap.size, 0, none⟩ 1 1 [.int .i64 (-1)] rfl rfl ?c1 ?c2 ?c3 ?c4 ?c5 ?_)
        case c1 => exact cell_one_new _ _ _
        case c2 => intro u hu; simp at hu; subst hu; rfl
        case c3 => unfold maxLen; omega
        case c4 => omega
        case c5 => simp; omega
        · intro v' w2 hown' hgrow _ _
          have hb : Below w.heap.size wr w2 := ((Below.refl _ _).alloc hsz _).grown hgrow (by simp; omega) (fun j hj => (hown.lt j hj).1)
          have HO2 : Hid (w2.ownsRow w.heap.size 3 1 v' (k + 1) (((slotsC st).take (k + 1)).map (Value.int .i64))) := by
            show World.ownsRow _ _ _ _ _ _ _
            rw [HT.out, List.map_append, List.map_take]
            exact hown'
          have hz2 := hb.size
          have HB2 := Lib.hid (HB.out.trans hb)
          clear hown' hgrow hown hb hx
          go_wp2_with fail
          go_roundw
          case rel => exact ⟨k + 1, by omega, by go_num, HO2.out, by omega, HB2.out⟩
          case measure => simp [intOf]; omega
      · have hrng := (HI.out.rng k (by rw [HN.out]; exact hlt)).resolve_left hs
        rw [if_neg hs] at HT
        obtain ⟨i, hi2⟩ : ∃ i : Nat, slotAt st.sl k = i := ⟨(slotAt st.sl k).toNat, by omega⟩
        rw [hi2] at hx
        rw [hi2, Int.toNat_natCast] at HT
        have hil : i < st.rows.length := by omega
        obtain ⟨g, c2, he2, hy1, hy2, hf2⟩ := rows_cells HRD.out.2.2.1 i hil
        obtain ⟨rfl, rfl⟩ := slice_inj he2
        have hi0 : (0 : Int) ≤ (i : Int) := by omega
        have hi1 : (i : Int) < st.rows.length := by omega
        clear he hf hown hs hrng hi2 he2 hf2 hy2
        generalize cellAt st.rows i = x at *
        go_wp2_with fail
        go_quiet (fail)
        have hown := own_calm HO.out (calm_drewN wr nq)
        go_wp2_with (at_builtin; refine wpList_append_own_at _ rfl (.tmp 37) (.tmp 39) 30 rfl w.heap.size 3 i0 (.int .i64 0) 1 8 Try.underlying30 hi hI0 hI1 hI2 rfl (by decide) _ _ _ rfl (hown.alloc _) ⟨wr.heap.size, 0, none⟩ 1 1 [.int .i64 x] rfl rfl ?d1 ?d2 ?d3 ?d4 ?d5 ?_)
        case d1 => exact cell_one_new (wr.drewN nq) _ _
        case d2 => intro u hu; simp at hu; subst hu; rfl
        case d3 => unfold maxLen; omega
        case d4 => omega
        case d5 => show w.heap.size ≤ _; simp; omega
        · intro v' w2 hown' hgrow _ _
          have hb : Below w.heap.size (wr.drewN nq) w2 := ((Below.refl _ (wr.drewN nq)).alloc hsz _).grown hgrow (by show w.heap.size ≤ _; simp; omega) (fun j hj => (hown.lt j hj).1)
          have HO2 : Hid (w2.ownsRow w.heap.size 3 1 v' (k + 1) (((slotsC st).take (k + 1)).map (Value.int .i64))) := by
            show World.ownsRow _ _ _ _ _ _ _
            rw [HT.out, List.map_append, List.map_take]
            exact hown'
          have hz2 : wr.heap.size ≤ w2.heap.size := hb.size
          have HB2 := Lib.hid ((HB.out.trans (below_drewN (Below.refl _ wr) nq)).trans hb)
          clear hown' hgrow hown hb hx hy1
          go_wp2_with fail
          go_roundw
          case rel => exact ⟨k + 1, by omega, by go_num, HO2.out, by omega, HB2.out⟩
          case measure => simp [intOf]; omega
    · obtain rfl : k = N := by omega
      have HO := Lib.hid hown
      clear hown
      go_wp2_with fail
      go_ret
      refine ⟨_, rfl, ?_, HB.out⟩
      have h := HO.out
      rw [List.take_of_length_le (by rw [slotsC_length, HLN.out]; exact Nat.le_refl _)] at h
      rw [slotsC_length, HLN.out]
      exact h
set_option maxHeartbeats 1000000 in
theorem sameInts_any (v u : Value) (xs ys : List Int) (w : World) (hx : w.ownsRow 0 3 1 v xs.length (xs.map (Value.int .i64))) (hy : w.ownsRow 0 3 1 u ys.length (ys.map (Value.int .i64))) :
    Calls Try.prog 23 #[v, u] w fun e w' => e = .returned (.bool (decide (xs = ys))) ∧ Below w.heap.size w w' := by
  obtain ⟨a, ca, rfl⟩ := ownAt_form hx
  obtain ⟨b, cb, rfl⟩ := ownAt_form hy
  have hlx := own_len hx
  have hly := own_len hy
  by_cases hn : xs.length = ys.length
  · have HX := Lib.hid hx
    have HY := Lib.hid hy
    have HN := Lib.hid hn
    obtain ⟨n, hxn⟩ : ∃ n, xs.length = n := ⟨_, rfl⟩
    have hyn := hn.symm.trans hxn
    rw [hxn, hyn]
    have HXN := Lib.hid hxn
    have HYN := Lib.hid hyn
    rw [hxn] at hlx
    clear hx hy hly hn hxn hyn
    go_enter Try.func23, Try.ntmps23
    go_wp2_with fail
    go_loopw [5] (fun i wr => ∃ k : Nat, k ≤ n ∧ i = .int .i64 k ∧ Hid ((∀ j, j < k → slotAt xs j = slotAt ys j) ∧ Below w.heap.size w wr)) (fun i _ => n - (intOf i).toNat)
    case atStart => exact ⟨0, by omega, rfl, fun j hj => by omega, Below.refl _ _⟩
    case round =>
      obtain ⟨k, hk, rfl, HH⟩ := hrel
      by_cases hlt : k < n
      · have hX2 := own_calm HX.out HH.out.2
        have hY2 := own_calm HY.out HH.out.2
        obtain ⟨g, c', he, hx1, hf⟩ := slots_cells hX2 k (by rw [HXN.out]; exact hlt)
        rw [HXN.out] at he
        obtain ⟨rfl, rfl⟩ := slice_inj he
        obtain ⟨g2, c2, he2, hy1, hf2⟩ := slots_cells hY2 k (by rw [HYN.out]; exact hlt)
        rw [HYN.out] at he2
        obtain ⟨rfl, rfl⟩ := slice_inj he2
        obtain ⟨x1, HX1⟩ : ∃ x, Hid (slotAt xs k = x) := ⟨_, rfl⟩
        obtain ⟨y1, HY1⟩ : ∃ x, Hid (slotAt ys k = x) := ⟨_, rfl⟩
        rw [HX1.out] at hx1
        rw [HY1.out] at hy1
        clear hX2 hY2 he he2 hf hf2
        by_cases hxy : x1 = y1
        · have hb : (x1 == y1) = true := by simp [hxy]
          have hb2 : (x1 != y1) = false := by simp [hxy]
          have HXY := Lib.hid hxy
          clear hxy
          go_wp2_with fail
          go_quiet (fail)
          go_wp2_with fail
          go_roundw
          case rel =>
            refine ⟨k + 1, by omega, by go_num, fun j hj => ?_, HH.out.2.trans (below_drewN (Below.refl _ _) _)⟩
            by_cases hjk : j = k
            · subst hjk; rw [HX1.out, HY1.out, HXY.out]
            · exact HH.out.1 j (by omega)
          case measure => simp [intOf]; omega
        · have hb : (x1 == y1) = false := by simp [hxy]
          have hb2 : (x1 != y1) = true := by simp [hxy]
          have HXY := Lib.hid hxy
          clear hxy
          go_wp2_with fail
          go_quiet (fail)
          go_wp2_with fail
          go_ret
          refine ⟨ret_bool ?_, HH.out.2.trans (below_drewN (Below.refl _ _) _)⟩
          rw [eq_comm, decide_eq_false_iff_not]
          intro e
          apply HXY.out
          rw [← HX1.out, ← HY1.out, e]
      · obtain rfl : k = n := by omega
        go_wp2_with fail
        go_ret
        refine ⟨ret_bool ?_, HH.out.2⟩
        rw [eq_comm, decide_eq_true_iff]
        apply List.ext_getElem (HXN.out.trans HYN.out.symm)
        intro j h1 h2
        have h := HH.out.1 j (by rw [HXN.out] at h1; exact h1)
        unfold slotAt at h
        simpa [List.getD, List.getElem?_eq_getElem h1, List.getElem?_eq_getElem h2] using h
  · have hne : ((xs.length : Int) == (ys.length : Int)) = false := by simp; omega
    have hne2 : ((xs.length : Int) != (ys.length : Int)) = true := by simp; omega
    have HN : Hid (xs ≠ ys) := by
      intro e
      exact hn (by rw [e])
    clear hn hx hy
    go_enter Try.func23, Try.ntmps23
    go_wp2_with fail
    go_ret
    refine ⟨ret_bool ?_, Below.refl _ _⟩
    rw [eq_comm, decide_eq_false_iff_not]
    exact HN.out
end Go.Proofs.Ytgaaghpcnkcjcaa
