/- Layer 5: contracts of the reference's List, Slots, Clear, New, SameWrites, SameInts. -/
import Derived.Test.YtekmdekcncgkfaaX1
namespace Go.Proofs.Ytekmdekcncgkfaa
open Go.RowKit
set_option linter.unusedVariables false
theorem refTabPut_any (st : TS) (hI : Inv st) (p : Nat) (F : Nat → Prop) (w : World) (h : RefObj w p st F) (c v : Int) :
    Calls Try.prog 38 #[.pointer (some ⟨p, 0, none⟩), .int .i64 c, .int .i64 v] w (RefPut w p F (putT st c v) (putE st c)) := by
  unfold putT putE
  by_cases hc : c < 0 ∨ 1024 ≤ c
  · rw [if_pos hc, if_pos hc]
    exact refPut_bad st p F w h c v hc
  · rw [if_neg hc, if_neg hc]
    cases hr : rowOf st.rows c with
    | some i => exact refPut_there st p F w h c v (by omega) (by omega) i hr
    | none =>
      by_cases hl : st.rows.length < st.most
      · simp only [if_pos hl]
        exact refPut_new st hI p F w h c v (by omega) (by omega) hr hl
      · simp only [if_neg hl]
        exact refPut_full st hI p F w h c v (by omega) (by omega) hr hl
/-- A list of ints in new memory. -/
def IntsOut (w : World) (xs : List Int) (e : Ending) (w' : World) : Prop :=
  ∃ v, e = .returned v ∧ w'.ownsRow w.heap.size 3 1 v xs.length (xs.map (Value.int .i64)) ∧ Below w.heap.size w w'
/-- A list of writes in new memory. -/
def RowsOut (w : World) (xs : List (Int × Int)) (e : Ending) (w' : World) : Prop :=
  ∃ v, e = .returned v ∧ w'.ownsRow w.heap.size 50 2 v xs.length (rowCells xs) ∧ Below w.heap.size w w'
theorem take_row {rows : List (Int × Int)} {k : Nat} (h : k < rows.length) : rows.take (k + 1) = rows.take k ++ [(cellAt rows k, valAt rows k)] := by
  rw [List.take_add_one, row_get h]; rfl
theorem own_le {w : World} {B T sz n : Nat} {v : Value} {xs : List Value} (h : w.ownsRow B T sz v n xs) : n * sz = xs.length := h.1.symm
set_option maxHeartbeats 1000000 in
theorem refList_any (st : TS) (p : Nat) (lv sv : Value) (w : World) (hR : RefAt w p lv sv st) (hm : st.rows.length ≤ 24) :
    Calls Try.prog 42 #[.pointer (some ⟨p, 0, none⟩)] w (RowsOut w st.rows) := by
  obtain ⟨i0, hi, hI0, hI1, hI2⟩ := info_parts infoWrite
  obtain ⟨a, cap, rfl⟩ := ownAt_form hR.2.2.1
  have HRR := Lib.hid hR
  have hp := heap_lt hR.1
  clear hR
  generalize hrows : st.rows = rows at *
  have HR := Lib.hid hrows
  clear hrows
  go_enter Try.func42, Try.ntmps42
  go_wp2_with fail
  go_loopw [3, 4] (fun v i wr => ∃ k : Nat, k ≤ rows.length ∧ i = .int .i64 k ∧ wr.ownsRow w.heap.size 50 2 v k (rowCells (rows.take k)) ∧ w.heap.size ≤ wr.heap.size ∧ Hid (Below w.heap.size w wr)) (fun _ i _ => rows.length - (intOf i).toNat)
  case atStart => exact ⟨0, by omega, rfl, World.ownsRow_nil _ _ _ _, Nat.le_refl _, Below.refl _ _⟩
  case round =>
    obtain ⟨k, hk, rfl, hown, hsz, HB⟩ := hrel
    have HRD := Lib.hid (HRR.out.calm HB.out)
    have hcp : wr.cell? ⟨p, 1, none⟩ = some (.slice a rows.length cap) := by simp [World.cell?, HRD.out.1]
    by_cases hlt : k < rows.length
    · obtain ⟨g, c', he, hx1, hx2, hf⟩ := rows_cells HRD.out.2.2.1 k (by rw [HR.out]; exact hlt)
      rw [HR.out] at he hx1 hx2
      obtain ⟨rfl, rfl⟩ := slice_inj he
      have HT := Lib.hid (take_row hlt)
      generalize cellAt rows k = x at *
      generalize valAt rows k = y at *
      clear he hf
      go_wp2_with (at_builtin; refine wpList_append_own_at _ rfl (.tmp 14) (.tmp 22) 32 rfl w.heap.size 50 i0 (.agg #[.int .i64 0, .int .i64 0]) 2 16 Try.underlying32 hi hI0 hI1 hI2 rfl (by decide) _ _ _ rfl (hown.alloc _) ⟨wr.heap.size, 0, none⟩ 1 1 [.int .i64 x, .int .i64 y] rfl rfl ?c1 ?c2 ?c3 ?c4 ?c5 ?_)
      case c1 => exact two_new _ _ _ _
      case c2 => intro u hu; simp at hu; rcases hu with rfl | rfl <;> rfl
      case c3 => unfold maxLen; omega
      case c4 => omega
      case c5 => simp; omega
      · intro v' w2 hown' hgrow _ _
        have hb : Below w.heap.size wr w2 := ((Below.refl _ _).alloc hsz _).grown hgrow (by simp; omega) (fun j hj => (hown.lt j hj).1)
        have HO : Hid (w2.ownsRow w.heap.size 50 2 v' (k + 1) (rowCells (rows.take (k + 1)))) := by
          show World.ownsRow _ _ _ _ _ _ _
          rw [HT.out, rowCells_app]
          exact hown'
        have hz2 := hb.size
        have HB2 := Lib.hid (HB.out.trans hb)
        clear hown' hgrow hown hb hx1 hx2
        go_wp2_with fail
        go_roundw
        case rel => exact ⟨k + 1, by omega, by go_num, HO.out, by omega, HB2.out⟩
        case measure => simp [intOf]; omega
    · obtain rfl : k = rows.length := by omega
      have HO := Lib.hid hown
      clear hown
      go_wp2_with fail
      go_ret
      refine ⟨_, rfl, ?_, HB.out⟩
      have h := HO.out
      rw [List.take_length] at h
      exact h
set_option maxHeartbeats 1000000 in
theorem sameWrites_any (v u : Value) (xs ys : List (Int × Int)) (w : World) (hx : w.ownsRow 0 50 2 v xs.length (rowCells xs)) (hy : w.ownsRow 0 50 2 u ys.length (rowCells ys)) :
    Calls Try.prog 31 #[v, u] w fun e w' => e = .returned (.bool (decide (xs = ys))) ∧ Below w.heap.size w w' := by
  obtain ⟨a, ca, rfl⟩ := ownAt_form hx
  obtain ⟨b, cb, rfl⟩ := ownAt_form hy
  have hlx := own_len hx
  have hly := own_len hy
  by_cases hn : xs.length = ys.length
  · have HX := Lib.hid hx
    have HY := Lib.hid hy
    have HN := Lib.hid hn
    obtain ⟨n, hxn⟩ : ∃ n, xs.length = n := ⟨_, rfl⟩
    have hyn := hn.symm.trans hxn
    rw [hxn, hyn]
    have HXN := Lib.hid hxn
    have HYN := Lib.hid hyn
    rw [hxn] at hlx
    clear hx hy hly hn hxn hyn
    go_enter Try.func31, Try.ntmps31
    go_wp2_with fail
    go_loopw [5] (fun i wr => ∃ k : Nat, k ≤ n ∧ i = .int .i64 k ∧ Hid ((∀ j, j < k → xs[j]? = ys[j]?) ∧ Below w.heap.size w wr)) (fun i _ => n - (intOf i).toNat)
    case atStart => exact ⟨0, by omega, rfl, fun j hj => by omega, Below.refl _ _⟩
    case round =>
      obtain ⟨k, hk, rfl, HH⟩ := hrel
      by_cases hlt : k < n
      · have hX2 := own_calm HX.out HH.out.2
        have hY2 := own_calm HY.out HH.out.2
        obtain ⟨g, c', he, hx1, hx2, hf⟩ := rows_cells hX2 k (by rw [HXN.out]; exact hlt)
        rw [HXN.out] at he
        obtain ⟨rfl, rfl⟩ := slice_inj he
        obtain ⟨g2, c2, he2, hy1, hy2, hf2⟩ := rows_cells hY2 k (by rw [HYN.out]; exact hlt)
        rw [HYN.out] at he2
        obtain ⟨rfl, rfl⟩ := slice_inj he2
        have HRx := Lib.hid (row_get (rows := xs) (i := k) (by rw [HXN.out]; exact hlt))
        have HRy := Lib.hid (row_get (rows := ys) (i := k) (by rw [HYN.out]; exact hlt))
        generalize cellAt xs k = x1 at *
        generalize valAt xs k = x2 at *
        generalize cellAt ys k = y1 at *
        generalize valAt ys k = y2 at *
        clear hX2 hY2 he he2 hf hf2
        have heq := eqW x1 x2 y1 y2
        by_cases hxy : x1 = y1 ∧ x2 = y2
        · have hb : (x1 == y1 && x2 == y2) = true := by simp [hxy]
          rw [hb] at heq
          have HXY := Lib.hid hxy
          clear hb hxy
          go_wp2_with fail
          go_quiet (fail)
          go_wp2_with fail
          go_roundw
          case rel =>
            refine ⟨k + 1, by omega, by go_num, fun j hj => ?_, HH.out.2.trans (below_drewN (Below.refl _ _) _)⟩
            by_cases hjk : j = k
            · subst hjk; rw [HRx.out, HRy.out, HXY.out.1, HXY.out.2]
            · exact HH.out.1 j (by omega)
          case measure => simp [intOf]; omega
        · have hb : (x1 == y1 && x2 == y2) = false := by
            rw [Bool.eq_false_iff]
            intro e
            simp at e
            exact hxy e
          rw [hb] at heq
          have HXY := Lib.hid hxy
          clear hb hxy
          go_wp2_with fail
          go_quiet (fail)
          go_wp2_with fail
          go_ret
          refine ⟨ret_bool ?_, HH.out.2.trans (below_drewN (Below.refl _ _) _)⟩
          rw [eq_comm, decide_eq_false_iff_not]
          intro e
          have h1 := HRx.out
          rw [e, HRy.out] at h1
          simp at h1
          exact HXY.out ⟨h1.1.symm, h1.2.symm⟩
      · obtain rfl : k = n := by omega
        go_wp2_with fail
        go_ret
        refine ⟨ret_bool ?_, HH.out.2⟩
        rw [eq_comm, decide_eq_true_iff]
        apply List.ext_getElem?
        intro j
        by_cases hj : j < k
        · exact HH.out.1 j hj
        · rw [List.getElem?_eq_none (by rw [HXN.out]; omega), List.getElem?_eq_none (by rw [HYN.out]; omega)]
  · have hne : ((xs.length : Int) == (ys.length : Int)) = false := by simp; omega
    have HN : Hid (xs ≠ ys) := by
      intro e
      exact hn (by rw [e])
    clear hn hx hy
    go_enter Try.func31, Try.ntmps31
    go_wp2_with fail
    go_ret
    refine ⟨ret_bool ?_, Below.refl _ _⟩
    rw [eq_comm, decide_eq_false_iff_not]
    exact HN.out
end Go.Proofs.Ytekmdekcncgkfaa
