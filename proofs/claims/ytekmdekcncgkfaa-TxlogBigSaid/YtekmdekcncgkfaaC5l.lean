/- Layer 5: contracts of the program's List and Slots. -/
import Derived.Test.YtekmdekcncgkfaaC5k
import Derived.Test.YtekmdekcncgkfaaM2
namespace Go.Proofs.Ytekmdekcncgkfaa
open Go.RowKit
set_option linter.unusedVariables false
set_option maxHeartbeats 1000000 in
theorem tabList_any (st : TS) (p : Nat) (lv sv : Value) (w : World) (hR : TabAt w p lv sv st) (hm : st.rows.length ≤ 24) :
    Calls Try.prog 22 #[.pointer (some ⟨p, 0, none⟩)] w (RowsOut w st.rows) := by
  obtain ⟨i0, hi, hI0, hI1, hI2⟩ := info_parts infoWrite
  obtain ⟨a, cap, rfl⟩ := ownAt_form hR.2.2.1
  have hcp : w.cell? ⟨p, 2, none⟩ = some (.slice a st.rows.length cap) := by simp [World.cell?, hR.1]
  have HRR := Lib.hid hR
  have hp := heap_lt hR.1
  clear hR
  go_enter Try.func22, Try.ntmps22
  go_wp2_with (at_make; refine wpList_make_full _ rfl (.tmp 10) (.tmp 10) 32 rfl w.heap.size 50 i0 (.agg #[.int .i64 0, .int .i64 0]) 2 Try.underlying32 hi hI0 hI1 .i64 .i64 st.rows.length st.rows.length st.rows.length rfl rfl rfl rfl (by rw [hI2]; omega) (by unfold maxLen; omega) (Nat.le_refl _) ?_)
  intro w1 hown hgrow
  have HB1 : Hid (Below w.heap.size w w1) := (Chg.grown hgrow).below (fun i e => by simp at e) (Nat.le_refl _)
  have hcp1 : w1.cell? ⟨p, 2, none⟩ = some (.slice a st.rows.length cap) := (HB1.out.cell (p := ⟨p, 2, none⟩) hp).trans hcp
  have hsrc := own_calm HRR.out.2.2.1 HB1.out
  have HO := Lib.hid hown
  clear hown hgrow
  have hown := HO.out
  obtain ⟨w2, hrun, hown2, hgrow2⟩ := run_copy_wide (P := Try.prog) w1 32 32 3 50 i0 2 Try.underlying32 hi hI1 hown hsrc (rowCells_one _)
  have HO2 := Lib.hid hown2
  have HB2 : Hid (Below w.heap.size w w2) := HB1.out.trans (((Below.refl _ _).grown hgrow2 HB1.out.size (fun k hk => (HO.out.lt k hk).1)))
  clear hown hown2 hgrow2 hsrc
  go_wp2_with fail
  go_ret
  exact ⟨_, rfl, HO2.out, HB2.out⟩
theorem take_set_next {xs ys : List Value} {k : Nat} {v : Value} (hk : k < xs.length) (h : xs.take k = ys) : (xs.set k v).take (k + 1) = ys ++ [v] := by
  rw [List.take_add_one, List.getElem?_set, if_pos rfl, if_pos hk, List.take_set, h]
  congr 1
  apply List.set_eq_of_length_le
  rw [← h, List.length_take]
  omega
end Go.Proofs.Ytekmdekcncgkfaa
